/- Part 3 of what the proof leans on: an evaluator of Go code over plain data, with its soundness; contracts of functions; laws of plain data. -/
import Derived.Shelf.Strconv.Itoa3
import Derived.Test.YtdlbnlbajnafdaaDoorTie
import Derived.Test.YtdlbnlbajnafdaaDoorCards
import Derived.Lib.LaidU8T
import Derived.PinnedBridge
import Derived.Deep.DeepHandedRow
import Derived.Laws.BitsLemmas
import Derived.Laws.Externs
import Derived.Test.YtdlbnlbajnafdaaDoorZq2
section
set_option linter.unusedVariables false
namespace Go.Ev
open Go.RowKit Go.Sort Go.Shelf Go.Proofs
theorem HR.grows {C : Ctx} {w w' : World} {K : KSet} {A : Asg} {h : Heap} (H : HR C w K A h) (hg : w.grownBy w' none) : HR C w' K A h ∧ Ext K A h w K A h w' := by
  have hw : ∀ b, b < w.heap.size → w'.heap[b]? = w.heap[b]? := fun b hb => hg.block b hb (by simp)
  have x : Ext K A h w K A h w' :=
    ⟨fun b hb => ⟨hb, hw b (H.kset b hb).1⟩, fun i hi => ⟨hi, rfl, rfl⟩, fun i e k xs' _ hgi => ⟨xs', hgi, rfl⟩, fun i k xs' _ hgi => .inr ⟨xs', hgi, rfl⟩⟩
  refine ⟨⟨fun i b hb => BlkR.keep x hb (fun hu => hw _ (H.own i hu).2.1) (H.blk i b hb), H.inj, fun i hu => ?_, fun b hb => ?_, fun b hb => H.k0 b hb, fun g l hl => x.leaf (H.glob g l hl),
    hg.os.trans H.os, hg.tape.trans H.tape, hg.output.trans H.output, Nat.le_trans H.size hg.size, fun b hb hl => (hw b (Nat.lt_of_lt_of_le hb H.size)).trans (H.frame b hb hl)⟩, x⟩
  · obtain ⟨a, b, c⟩ := H.own i hu
    exact ⟨a, Nat.lt_of_lt_of_le b hg.size, c⟩
  · obtain ⟨a, c⟩ := H.kset b hb
    exact ⟨Nat.lt_of_lt_of_le a hg.size, c⟩
theorem grownBy_grow (w : World) (k : Nat) (os : Array Obj) : w.grownBy (grow (w.drewN k) os) none :=
  ⟨rfl, rfl, rfl, by rw [size_grow]; exact Nat.le_add_right _ _, fun b hb _ => by
    show (w.heap ++ os)[b]? = w.heap[b]?
    rw [Array.getElem?_append, if_pos hb]⟩
theorem callsIn_open {F : Fence} (O : Open F) {n : Nat} {P : Program} {f : FuncId} {args : Array Value} {w : World} {R : Ending → World → Prop} (h : Calls P f args w R) : CallsIn F n P f args w R := by
  have hf : ∀ m, Machine.fenced P F m := fun m g _ => ⟨fun ha => (by rw [O.alive] at ha; cases ha), .inl (O.fn _), fun f _ => O.fn f, fun d hd => (by rw [O.depth] at hd; cases hd)⟩
  have hs : ∀ {m m' : Machine}, Steps P m m' → StepsIn (Machine.fenced P F) P m m' := fun h => (StepsIn.of_steps h).mono fun m _ => hf m
  refine ⟨O.fn f, fun cs _ => ?_⟩
  obtain ⟨e, w', fr, r, s, x⟩ := h cs
  refine ⟨e, w', fr, r, ?_, x⟩
  cases e with
  | returned v => exact hs s
  | panicked chain => exact hs s
  | outgrown => exact s
def itoaB (n : Int) : ByteArray := ⟨(Lib.itoa n).toArray⟩
abbrev itoaS : FSpec := dspec [.int .i64] fun x => { c := some (decide (-9223372036854775808 ≤ (x.1 : Int) ∧ (x.1 : Int) ≤ 9223372036854775807)), rs := .av (.one (.dat .str (itoaB x.1))) }
theorem tabIs_glob {P : Program} {C : Ctx} {w : World} {K : KSet} {A : Asg} {h : Heap} (H : HR C w K A h) {g : Nat} {name : String} {zs : List Int} (hg : C.E.glob g = some (.arr (.int .u64) zs)) (hn : P.globalNamed name = some g) : Lib.TabIs P w name .u64 zs := by
  obtain ⟨b, off, cs, t, fr, e, hk, hc, hR, hz⟩ := H.glob g _ hg
  cases e
  have hz := hz rfl
  unfold Lib.TabIs World.var?
  rw [hn]
  show (match w.heap[g]? with | some (.cells cs _ _) => some cs | _ => none) = _
  rw [hc]
  show some cs = _
  congr 1
  apply Array.ext_getElem?
  intro i
  by_cases hi : i < zs.length
  · have h1 := hR i hi
    have h2 : cellsAt cs (0 + i * 1) 1 = [.int .u64 (zs.getD i 0)] := h1
    have h3 : i < cs.size := by rw [hz]; exact hi
    unfold cellsAt at h2
    rw [Nat.zero_add, Nat.mul_one, List.drop_eq_getElem_cons (by simpa using h3), List.take_succ_cons, List.take_zero] at h2
    have h4 := (List.cons.inj h2).1
    rw [Array.getElem?_eq_getElem h3]
    simp only [Array.getElem_toList] at h4
    rw [h4]
    simp [List.getD_eq_getElem?_getD, hi]
  · rw [Array.getElem?_eq_none (by rw [hz]; omega), Array.getElem?_eq_none (by simp; omega)]
theorem itoa_ok {P : Program} {ρ : Go.Shelf.Ren} (L : LaysM.n171 P ρ) {E : Env} {g : Nat} (hg : E.glob g = some (.arr (.int .u64) Lib.pow10Tab)) (hn : P.globalNamed "internal/strconv.uint64pow10" = some g)
    (he : ∀ args w, (callFunc (ρ.f 171) args).run P w = .ok (.enter (ρ.f 171) args) w) {f : FuncId} (hf : ρ.f 171 = f) : SpecOK P E f itoaS := by
  subst hf
  intro F O args bs r hr hc w K A vs H hv
  unfold itoaS dspec at hr
  simp only [] at hr
  split at hr
  · split at hr
    · rename_i x hx
      cases hr
      have hin : -9223372036854775808 ≤ x.1 ∧ x.1 ≤ 9223372036854775807 := by
        by_cases hd : -9223372036854775808 ≤ x.1 ∧ x.1 ≤ 9223372036854775807
        · exact hd
        · exact absurd (by simp [hd]) hc
      have hv' := packAll_R H hx hv
      have hvs : vs = [.int .i64 x.1] := by
        cases hv' with
        | cons h1 h2 =>
          cases h2
          rw [show _ = _ from h1]
      subst hvs
      refine .inr ⟨he _ _, callsIn_open O ((Any.strconv_Itoa L x.1 hin.1 hin.2 w (tabIs_glob H hg hn)).mono fun e w' h => ?_)⟩
      obtain ⟨rfl, k, os, rfl⟩ := h
      obtain ⟨H', X⟩ := H.grows (grownBy_grow w k os)
      exact ⟨_, rfl, K, A, H', X, rfl, rfl⟩
    · cases hr
  · cases hr
end Go.Ev
end
section
set_option linter.unusedVariables false
set_option maxRecDepth 100000
namespace Go.Proofs.YtdlbnlbajnafdaaDoor
open Go.ChangeShapes Go.WideShapes Go.ChangeAt Go.RowKit Go.Ev Go.Lib Go.Shelf
def bool1 (b : Bool) : SRes := { rs := one (.dat .bool b) }
theorem own : ownKnob Tryd.prog.godebug = none := by kernel_rfl
def ρ8 : Ren := ⟨fun x => x, fun x => if x = 119 then 212 else if x = 138 then 214 else if x = 139 then 215 else x, fun x => x - 1⟩
theorem ty8 : U8Types Tryd.prog ρ8 := ⟨Tryd.underlying5, Tryd.underlying212, Tryd.underlying214, Tryd.underlying215⟩
theorem ex8 : U8Extra Tryd.prog ρ8 := ⟨by kernel_rfl, by kernel_rfl, by kernel_rfl, by kernel_rfl, by kernel_rfl, by kernel_rfl, by kernel_rfl⟩
def laidL : List (String × DataW Unit) := [("math/bits.deBruijn32tab", Rows.laid_math_bits_deBruijn32tab), ("math/bits.deBruijn64tab", Rows.laid_math_bits_deBruijn64tab), ("internal/strconv.uint64pow10", Rows.laid_internal_strconv_uint64pow10), ("unicode/utf8.acceptRanges", Rows.laid_unicode_utf8_acceptRanges), ("unicode/utf8.first", Rows.laid_unicode_utf8_first)]
theorem pow_eq : (Rows.laid_internal_strconv_uint64pow10 : DataW Unit) = tabData .u64 U.pow10L := by kernel_rfl
theorem acc_eq : (Rows.laid_unicode_utf8_acceptRanges : DataW Unit) = acceptData := by kernel_rfl
theorem fst_eq : Rows.laid_unicode_utf8_first = firstData := by kernel_rfl
def Tabs (W : World) : Prop := Utf8Tabs 2 3 W ∧ TabIs Tryd.prog W "internal/strconv.uint64pow10" .u64 U.pow10L
theorem tabs {W : World} (h : laidMetH Tryd.prog laidL W) : Tabs W := by
  have h' : laidMet Tryd.prog laidL W := h
  have r1 := laidMet.reads h' (n := "unicode/utf8.first") (d := Rows.laid_unicode_utf8_first) (by simp [laidL])
  have r2 := laidMet.reads h' (n := "unicode/utf8.acceptRanges") (d := Rows.laid_unicode_utf8_acceptRanges) (by simp [laidL])
  have r3 := laidMet.reads h' (n := "internal/strconv.uint64pow10") (d := Rows.laid_internal_strconv_uint64pow10) (by simp [laidL])
  rw [fst_eq] at r1
  rw [acc_eq] at r2
  rw [pow_eq] at r3
  refine ⟨utf8Tabs_of_readsT ty8 ex8 r1 r2, ?_⟩
  obtain ⟨g, t, cs, fuel, p, hg, hty, hvar, hd⟩ := r3
  obtain rfl := Option.some.inj ((show Tryd.prog.globalNamed "internal/strconv.uint64pow10" = some 5 by kernel_rfl).symm.trans hg)
  obtain rfl := Option.some.inj ((show (Tryd.prog.globals[5]?).map (·.type) = some 241 by kernel_rfl).symm.trans hty)
  unfold TabIs
  rw [hvar, ← cells_of_tab Tryd.underlying241 Tryd.underlying193 (by kernel_rfl) (by kernel_rfl) hd]
theorem cells_of {W : World} {g : Nat} {i : Nat} {v : Value} (h : W.cell? ⟨g, i, none⟩ = some v) : ∃ cs t fr, W.heap[g]? = some (.cells cs t fr) := by
  unfold World.cell? at h
  split at h
  · rename_i c t fr hc
    exact ⟨c, t, fr, hc⟩
  · cases h
theorem cell_at {W : World} {g : Nat} {cs : Array Value} {t : TypeId} {fr : Nat × Nat} (hc : W.heap[g]? = some (.cells cs t fr)) {i : Nat} {v : Value} (h : W.cell? ⟨g, i, none⟩ = some v) : cs.toList[i]? = some v := by
  unfold World.cell? at h
  rw [hc] at h
  simpa using h
theorem globs {W : World} (hT : Tabs W) : ∀ g p, E0.glob g = some p → LeafR W (allK W) noA [] p.leaf (.pointer (some ⟨g, 0, none⟩)) := by
  obtain ⟨h, hp10⟩ := hT
  intro g p hp
  have hp : gl g = some p := hp
  unfold gl at hp
  cases h0 : Nat.beq g 2 with
  | true =>
    rw [h0] at hp
    cases hp
    have e := Nat.eq_of_beq_eq_true h0
    subst e
    obtain ⟨cs, t, fr, hc⟩ := cells_of (h.1 0 (by omega))
    refine ⟨2, 0, cs, t, fr, rfl, (Array.getElem?_eq_some_iff.1 hc).1, hc, fun i hi => ?_, fun h => by cases h⟩
    have hi : i < 256 := hi
    have h1 := cell_at hc (h.1 i hi)
    show cellsAt cs (0 + i * 1) 1 = [.int .u8 (U.firstL.getD i 0)]
    have e : U.firstL.getD i 0 = firstT i := by
      unfold U.firstL
      rw [List.getD_eq_getElem?_getD, List.getElem?_map, List.getElem?_range hi]
      rfl
    rw [e]
    unfold cellsAt
    rw [Nat.zero_add, Nat.mul_one, List.drop_eq_getElem_cons (List.getElem?_eq_some_iff.1 h1).1, List.take_succ_cons, List.take_zero, (List.getElem?_eq_some_iff.1 h1).2]
  | false =>
    rw [h0] at hp
    cases h1 : Nat.beq g 3 with
    | false =>
      rw [h1] at hp
      cases h2 : Nat.beq g 5 with
      | false => rw [h2] at hp; cases hp
      | true =>
        rw [h2] at hp
        cases hp
        have e := Nat.eq_of_beq_eq_true h2
        subst e
        unfold TabIs World.var? at hp10
        rw [show Tryd.prog.globalNamed "internal/strconv.uint64pow10" = some 5 from by kernel_rfl] at hp10
        have hp10 : (match (W.heap[5]? : Option Obj) with | some (Obj.cells cs _ _) => some cs | _ => none) = some (U.pow10L.map fun z => Value.int .u64 z).toArray := hp10
        split at hp10
        · rename_i cs t fr hc
          cases hp10
          refine ⟨5, 0, _, t, fr, rfl, (Array.getElem?_eq_some_iff.1 hc).1, hc, fun i hi => ?_, fun _ => by simp⟩
          have hi : i < U.pow10L.length := hi
          show cellsAt (U.pow10L.map fun z => Value.int .u64 z).toArray (0 + i * 1) 1 = [.int .u64 (U.pow10L.getD i 0)]
          unfold cellsAt
          have hi2 : i < (U.pow10L.map fun z => Value.int .u64 z).length := by rw [List.length_map]; exact hi
          rw [Nat.zero_add, Nat.mul_one, List.drop_eq_getElem_cons hi2, List.take_succ_cons, List.take_zero, List.getElem_map, List.getD_eq_getElem?_getD, List.getElem?_eq_getElem hi]
          rfl
        · cases hp10
    | true =>
      rw [h1] at hp
      cases hp
      have e := Nat.eq_of_beq_eq_true h1
      subst e
      obtain ⟨cs, t, fr, hc⟩ := cells_of (h.2 0 (by omega)).1
      refine ⟨3, 0, cs, t, fr, rfl, (Array.getElem?_eq_some_iff.1 hc).1, hc, fun i hi => ?_, fun h => by cases h⟩
      have hi : i < 16 := hi
      have a1 := cell_at hc (h.2 i hi).1
      have a2 := cell_at hc (h.2 i hi).2
      have e : U.accL.getD i (Kd.dflt acck) = ((accLo i : Int), (accHi i : Int), ()) := by
        unfold U.accL
        rw [List.getD_eq_getElem?_getD, List.getElem?_map, List.getElem?_range hi]
        rfl
      show Kd.R W (allK W) acck (U.accL.getD i (Kd.dflt acck)) (cellsAt cs (0 + i * 2) 2)
      rw [e]
      have b1 := List.getElem?_eq_some_iff.1 a1
      have b2 := List.getElem?_eq_some_iff.1 a2
      have hcs : cellsAt cs (0 + i * 2) 2 = [.int .u8 (accLo i), .int .u8 (accHi i)] := by
        unfold cellsAt
        rw [Nat.zero_add, Nat.mul_comm i 2, List.drop_eq_getElem_cons b1.1, List.take_succ_cons, List.drop_eq_getElem_cons b2.1, List.take_succ_cons, List.take_zero, b1.2, b2.2]
      rw [hcs]
      exact ⟨[.int .u8 (accLo i)], [.int .u8 (accHi i)], rfl, rfl, [.int .u8 (accHi i)], [], rfl, rfl, rfl⟩
def lay0 : Obj → Obj
  | .cells _ t frozen => .cells ((List.range 256).map fun i => Value.int .u8 (firstT i)).toArray t frozen
  | o => o
def lay1 : Obj → Obj
  | .cells _ t frozen => .cells ((List.range 16).flatMap fun i => [Value.int .u8 (accLo i), Value.int .u8 (accHi i)]).toArray t frozen
  | o => o
def lay2 : Obj → Obj
  | .cells _ t frozen => .cells (U.pow10L.map fun z => Value.int .u64 z).toArray t frozen
  | o => o
def tab32 : List Int := [0, 1, 28, 2, 29, 14, 24, 3, 30, 22, 20, 15, 25, 17, 4, 8, 31, 27, 13, 23, 21, 19, 16, 7, 26, 12, 18, 6, 11, 5, 10, 9]
def tab64 : List Int := [0, 1, 56, 2, 57, 49, 28, 3, 61, 58, 42, 50, 38, 29, 17, 4, 62, 47, 59, 36, 45, 43, 51, 22, 53, 39, 33, 30, 24, 18, 12, 5, 63, 55, 48, 27, 60, 41, 37, 16, 46, 35, 44, 21, 52, 32, 23, 11, 54, 26, 40, 15, 34, 20, 31, 10, 25, 14, 19, 9, 13, 8, 7, 6]
def lay3 : Obj → Obj
  | .cells _ t frozen => .cells (tab32.map fun z => Value.int .u8 z).toArray t frozen
  | o => o
def lay4 : Obj → Obj
  | .cells _ t frozen => .cells (tab64.map fun z => Value.int .u8 z).toArray t frozen
  | o => o
noncomputable def laidWorld (os : Os) : World :=
  { World.holding Tryd.prog os ⟨#[], #[], []⟩ with heap := (((((World.holding Tryd.prog os ⟨#[], #[], []⟩).heap.modify 2 lay0).modify 3 lay1).modify 5 lay2).modify 8 lay3).modify 9 lay4 }
end Go.Proofs.YtdlbnlbajnafdaaDoor
end
section
set_option linter.unusedVariables false
set_option linter.unusedSimpArgs false
set_option maxRecDepth 20000
namespace U
open Go Go.Ev Go.Proofs.YtdlbnlbajnafdaaDoor
def need (c : Int) : Int := if c < 128 then 1 else if c < 194 then 0 else if c < 224 then 2 else if c < 240 then 3 else if c < 245 then 4 else 0
def lo (c : Int) : Int := if c = 224 then 160 else if c = 240 then 144 else 128
def hi (c : Int) : Int := if c = 237 then 159 else if c = 244 then 143 else 191
def ok1 (s : ByteArray) : Bool := decide (lo (bt s 0) ≤ bt s 1) && decide (bt s 1 ≤ hi (bt s 0))
def cont (c : Int) : Bool := decide (128 ≤ c) && decide (c ≤ 191)
def full (s : ByteArray) : Bool :=
  bif decide (s.size = 0) then false else bif decide (need (bt s 0) ≤ (s.size : Int)) then true else
  bif decide (1 < s.size) && !ok1 s then true else decide (2 < s.size) && !cont (bt s 2)
def val2 (s : ByteArray) : Int := (bt s 0 - 192) * 64 + (bt s 1 - 128)
def val3 (s : ByteArray) : Int := (bt s 0 - 224) * 4096 + (bt s 1 - 128) * 64 + (bt s 2 - 128)
def val4 (s : ByteArray) : Int := (bt s 0 - 240) * 262144 + (bt s 1 - 128) * 4096 + (bt s 2 - 128) * 64 + (bt s 3 - 128)
def dec (s : ByteArray) : Int × Int :=
  bif decide (s.size = 0) then (65533, 0) else
  bif decide (need (bt s 0) = 0) then (65533, 1) else bif decide (need (bt s 0) = 1) then (bt s 0, 1) else
  bif decide ((s.size : Int) < need (bt s 0)) then (65533, 1) else bif !ok1 s then (65533, 1) else
  bif decide (need (bt s 0) = 2) then (val2 s, 2) else bif !cont (bt s 2) then (65533, 1) else
  bif decide (need (bt s 0) = 3) then (val3 s, 3) else bif !cont (bt s 3) then (65533, 1) else (val4 s, 4)
def q (c : Int) : Int := IntKind.i64.wrap (IntKind.u8.wrap (((BitVec.ofInt 8 (rget (.int .u8) firstL c) &&& BitVec.ofInt 8 7).toNat : Int)))
def chk (c : Nat) : Bool :=
  let b : Int := c
  let x : Int := rget (.int .u8) firstL b
  (decide (0 ≤ x) && decide (x ≤ 255)) && (decide (240 ≤ x) == decide (need b ≤ 1)) && decide (q b = if b < 128 then 0 else if need b ≤ 1 then 1 else need b) &&
    (decide (0 ≤ x.fdiv 16) && decide (x.fdiv 16 < 16)) && (decide (need b ≤ 1) || (decide ((rget acck accL (x.fdiv 16)).1 = lo b) && decide ((rget acck accL (x.fdiv 16)).2.1 = hi b))) &&
    (decide (2 ≤ need b) || decide (x = if b < 128 then 240 else 241))
theorem chk_all : ∀ c : Fin 256, chk c.val = true := by decide +kernel
structure Row (b : Int) : Prop where
  x0 : (0 : Int) ≤ (rget (.int .u8) firstL b : Int)
  x1 : (rget (.int .u8) firstL b : Int) ≤ 255
  big : ((240 : Int) ≤ (rget (.int .u8) firstL b : Int)) ↔ need b ≤ 1
  q : q b = if b < 128 then 0 else if need b ≤ 1 then 1 else need b
  f0 : 0 ≤ (rget (.int .u8) firstL b : Int).fdiv 16
  f1 : (rget (.int .u8) firstL b : Int).fdiv 16 < 16
  l : 2 ≤ need b → ((rget acck accL ((rget (.int .u8) firstL b : Int).fdiv 16)).1 : Int) = lo b
  h : 2 ≤ need b → ((rget acck accL ((rget (.int .u8) firstL b : Int).fdiv 16)).2.1 : Int) = hi b
  x : need b ≤ 1 → (rget (.int .u8) firstL b : Int) = if b < 128 then 240 else 241
theorem row {b : Int} (h0 : 0 ≤ b) (h1 : b ≤ 255) : Row b := by
  obtain ⟨n, rfl⟩ := Int.eq_ofNat_of_zero_le h0
  have hn : n < 256 := by omega
  have h := chk_all ⟨n, hn⟩
  simp only [chk, Bool.and_eq_true, decide_eq_true_eq, Bool.or_eq_true, beq_iff_eq] at h
  obtain ⟨⟨⟨⟨⟨⟨a1, a2⟩, a3⟩, a4⟩, a5, a6⟩, a7⟩, a8⟩ := h
  refine ⟨a1, a2, ?_, a4, a5, a6, fun h2 => ?_, fun h2 => ?_, fun h2 => ?_⟩
  · have := decide_eq_decide.1 a3
    exact this
  · rcases a7 with a7 | ⟨a7, _⟩
    · have : need (n : Int) ≤ 1 := a7
      omega
    · exact a7
  · rcases a7 with a7 | ⟨_, a7⟩
    · have : need (n : Int) ≤ 1 := a7
      omega
    · exact a7
  · rcases a8 with a8 | a8
    · have : 2 ≤ need (n : Int) := a8
      omega
    · exact a8
theorem need_cases (c : Int) : (need c = 1 ∧ c < 128) ∨ need c = 0 ∨ (need c = 2 ∧ 194 ≤ c ∧ c < 224) ∨ (need c = 3 ∧ 224 ≤ c ∧ c < 240) ∨ (need c = 4 ∧ 240 ≤ c ∧ c < 245) := by
  unfold need
  repeat' split
  all_goals omega
theorem lo_ge (c : Int) : 128 ≤ lo c := by unfold lo; repeat' split
                                           all_goals omega
theorem hi_le (c : Int) : hi c ≤ 191 := by unfold hi; repeat' split
                                           all_goals omega
end U
end
section
set_option linter.unusedVariables false
set_option maxRecDepth 20000
namespace Go.Proofs.YtdlbnlbajnafdaaDoor
open Go.Ev Go.RowKit
theorem t177 (s : ByteArray) {v1 : Int} {v2 : Int} {v3 : Int} {v4 : Int} {v5 : Int}
    (h1 : (bt s (2 : Int)) = v1)
    (h2 : (bt s (1 : Int)) = v2)
    (h3 : (bt s (0 : Int)) = v3)
    (h4 : (Int.fdiv (rget (Kd.int IntKind.u8) U.firstL v3) (16 : Int)) = v4)
    (h5 : ((↑(BitVec.ofInt (8 : Nat) (rget (Kd.int IntKind.u8) U.firstL v3) &&& BitVec.ofInt (8 : Nat) (7 : Int)).toNat : Int)) = v5)
    : evFn (E0.withFns []) Tryd.f177 [PM.data Kd.bool] (toAVs [Kd.str] (s, ())) [] =
Tr.ite (decide ((↑s.size : Int) = (0 : Int))) (Tr.ret { rs := Slot.av (AV.one (Leaf.dat Kd.bool false)), upd := [], new := [] })
  (Tr.ite (inB (0 : Int) s.size)
    (Tr.ite (inB v3 (256 : Nat))
      (Tr.ite (decide (IntKind.i64.wrap (IntKind.u8.wrap v5) ≤ (↑s.size : Int))) (Tr.ret { rs := Slot.av (AV.one (Leaf.dat Kd.bool true)), upd := [], new := [] })
        (Tr.ite true
          (Tr.ite (inB v4 (16 : Nat))
            (Tr.ite (decide ((1 : Int) < (↑s.size : Int)))
              (Tr.ite (inB (1 : Int) s.size)
                (Tr.ite (decide (v2 < (rget acck U.accL v4).fst)) (Tr.ret { rs := Slot.av (AV.one (Leaf.dat Kd.bool true)), upd := [], new := [] })
                  (Tr.ite (inB (1 : Int) s.size)
                    (Tr.ite (decide ((rget acck U.accL v4).snd.fst < v2)) (Tr.ret { rs := Slot.av (AV.one (Leaf.dat Kd.bool true)), upd := [], new := [] })
                      (Tr.ite (decide ((2 : Int) < (↑s.size : Int)))
                        (Tr.ite (inB (2 : Int) s.size)
                          (Tr.ite (decide (v1 < (128 : Int))) (Tr.ret { rs := Slot.av (AV.one (Leaf.dat Kd.bool true)), upd := [], new := [] })
                            (Tr.ite (inB (2 : Int) s.size)
                              (Tr.ite (decide ((191 : Int) < v1)) (Tr.ret { rs := Slot.av (AV.one (Leaf.dat Kd.bool true)), upd := [], new := [] })
                                (Tr.ret { rs := Slot.av (AV.one (Leaf.dat Kd.bool false)), upd := [], new := [] }))
                              Tr.fail))
                          Tr.fail)
                        (Tr.ret { rs := Slot.av (AV.one (Leaf.dat Kd.bool false)), upd := [], new := [] })))
                    Tr.fail))
                Tr.fail)
              (Tr.ite (decide ((2 : Int) < (↑s.size : Int)))
                (Tr.ite (inB (2 : Int) s.size)
                  (Tr.ite (decide (v1 < (128 : Int))) (Tr.ret { rs := Slot.av (AV.one (Leaf.dat Kd.bool true)), upd := [], new := [] })
                    (Tr.ite (inB (2 : Int) s.size)
                      (Tr.ite (decide ((191 : Int) < v1)) (Tr.ret { rs := Slot.av (AV.one (Leaf.dat Kd.bool true)), upd := [], new := [] })
                        (Tr.ret { rs := Slot.av (AV.one (Leaf.dat Kd.bool false)), upd := [], new := [] }))
                      Tr.fail))
                  Tr.fail)
                (Tr.ret { rs := Slot.av (AV.one (Leaf.dat Kd.bool false)), upd := [], new := [] })))
            Tr.fail)
          Tr.fail))
      Tr.fail)
    Tr.fail) := by
  subst h1; subst h2; subst h3; subst h4; subst h5; kernel_rfl
theorem t194 (s : ByteArray) {v1 : Int} {v2 : Int} {v3 : Int} {v4 : Int} {v5 : Int} {v6 : Int} {v7 : Int} {v8 : Int} {v9 : Int} {v10 : Int} {v11 : Int}
    (h1 : (bt s (2 : Int)) = v1)
    (h2 : (bt s (3 : Int)) = v2)
    (h3 : (bt s (0 : Int)) = v3)
    (h4 : (bt s (1 : Int)) = v4)
    (h5 : (IntKind.i32.wrap (rget (Kd.int IntKind.u8) U.firstL v3)) = v5)
    (h6 : (Int.fdiv (rget (Kd.int IntKind.u8) U.firstL v3) (16 : Int)) = v6)
    (h7 : (v5 * (2147483648 : Int)) = v7)
    (h8 : ((IntKind.i32.wrap v7).fdiv (2147483648 : Int)) = v8)
    (h9 : ((↑(BitVec.ofInt (8 : Nat) v1 &&& BitVec.ofInt (8 : Nat) (63 : Int)).toNat : Int)) = v9)
    (h10 : ((↑(BitVec.ofInt (8 : Nat) v4 &&& BitVec.ofInt (8 : Nat) (63 : Int)).toNat : Int)) = v10)
    (h11 : ((↑(BitVec.ofInt (8 : Nat) (rget (Kd.int IntKind.u8) U.firstL v3) &&& BitVec.ofInt (8 : Nat) (7 : Int)).toNat : Int)) = v11)
    : evFn (E0.withFns []) Tryd.f194 [PM.data (Kd.int IntKind.i32), PM.data (Kd.int IntKind.i64)] (toAVs [Kd.str] (s, ())) [] =
Tr.ite (decide ((↑s.size : Int) < (1 : Int))) (Tr.ret { rs := Slot.tup [AV.one (Leaf.dat (Kd.int IntKind.i32) (65533 : Int)), AV.one (Leaf.dat (Kd.int IntKind.i64) (0 : Int))], upd := [], new := [] })
  (Tr.ite (inB (0 : Int) s.size)
    (Tr.ite (inB v3 (256 : Nat))
      (Tr.ite (decide ((240 : Int) ≤ rget (Kd.int IntKind.u8) U.firstL v3))
        (Tr.ite true
          (Tr.ite true
            (Tr.ite (inB (0 : Int) s.size)
              (Tr.ret
                {
                  rs :=
                    Slot.tup
                      [AV.one
                          (Leaf.dat (Kd.int IntKind.i32)
                            (IntKind.i32.wrap
                              (↑(BitVec.ofInt (32 : Nat) (IntKind.i32.wrap (↑(BitVec.ofInt (32 : Nat) (IntKind.i32.wrap v3) &&& ~~~BitVec.ofInt (32 : Nat) v8).toNat : Int)) |||
                                      BitVec.ofInt (32 : Nat) (IntKind.i32.wrap (↑(BitVec.ofInt (32 : Nat) (65533 : Int) &&& BitVec.ofInt (32 : Nat) v8).toNat : Int))).toNat :
                                Int))),
                        AV.one (Leaf.dat (Kd.int IntKind.i64) (1 : Int))],
                  upd := [], new := [] })
              Tr.fail)
            Tr.fail)
          Tr.fail)
        (Tr.ite true
          (Tr.ite (inB v6 (16 : Nat))
            (Tr.ite (decide ((↑s.size : Int) < IntKind.i64.wrap (IntKind.u8.wrap v11)))
              (Tr.ret { rs := Slot.tup [AV.one (Leaf.dat (Kd.int IntKind.i32) (65533 : Int)), AV.one (Leaf.dat (Kd.int IntKind.i64) (1 : Int))], upd := [], new := [] })
              (Tr.ite (inB (1 : Int) s.size)
                (Tr.ite (decide (v4 < (rget acck U.accL v6).fst))
                  (Tr.ret { rs := Slot.tup [AV.one (Leaf.dat (Kd.int IntKind.i32) (65533 : Int)), AV.one (Leaf.dat (Kd.int IntKind.i64) (1 : Int))], upd := [], new := [] })
                  (Tr.ite (decide ((rget acck U.accL v6).snd.fst < v4))
                    (Tr.ret { rs := Slot.tup [AV.one (Leaf.dat (Kd.int IntKind.i32) (65533 : Int)), AV.one (Leaf.dat (Kd.int IntKind.i64) (1 : Int))], upd := [], new := [] })
                    (Tr.ite (decide (IntKind.i64.wrap (IntKind.u8.wrap v11) ≤ (2 : Int)))
                      (Tr.ite true
                        (Tr.ret
                          {
                            rs :=
                              Slot.tup
                                [AV.one
                                    (Leaf.dat (Kd.int IntKind.i32)
                                      (IntKind.i32.wrap
                                        (↑(BitVec.ofInt (32 : Nat)
                                                  (IntKind.i32.wrap
                                                    (IntKind.i32.wrap (IntKind.u8.wrap (↑(BitVec.ofInt (8 : Nat) v3 &&& BitVec.ofInt (8 : Nat) (31 : Int)).toNat : Int)) * (64 : Int))) |||
                                                BitVec.ofInt (32 : Nat) (IntKind.i32.wrap (IntKind.u8.wrap v10))).toNat :
                                          Int))),
                                  AV.one (Leaf.dat (Kd.int IntKind.i64) (2 : Int))],
                            upd := [], new := [] })
                        Tr.fail)
                      (Tr.ite (inB (2 : Int) s.size)
                        (Tr.ite (decide (v1 < (128 : Int)))
                          (Tr.ret { rs := Slot.tup [AV.one (Leaf.dat (Kd.int IntKind.i32) (65533 : Int)), AV.one (Leaf.dat (Kd.int IntKind.i64) (1 : Int))], upd := [], new := [] })
                          (Tr.ite (decide ((191 : Int) < v1))
                            (Tr.ret { rs := Slot.tup [AV.one (Leaf.dat (Kd.int IntKind.i32) (65533 : Int)), AV.one (Leaf.dat (Kd.int IntKind.i64) (1 : Int))], upd := [], new := [] })
                            (Tr.ite (decide (IntKind.i64.wrap (IntKind.u8.wrap v11) ≤ (3 : Int)))
                              (Tr.ite true
                                (Tr.ite true
                                  (Tr.ret
                                    {
                                      rs :=
                                        Slot.tup
                                          [AV.one
                                              (Leaf.dat (Kd.int IntKind.i32)
                                                (IntKind.i32.wrap
                                                  (↑(BitVec.ofInt (32 : Nat)
                                                            (IntKind.i32.wrap
                                                              (↑(BitVec.ofInt (32 : Nat)
                                                                        (IntKind.i32.wrap
                                                                          (IntKind.i32.wrap (IntKind.u8.wrap (↑(BitVec.ofInt (8 : Nat) v3 &&& BitVec.ofInt (8 : Nat) (15 : Int)).toNat : Int)) *
                                                                            (4096 : Int))) |||
                                                                      BitVec.ofInt (32 : Nat) (IntKind.i32.wrap (IntKind.i32.wrap (IntKind.u8.wrap v10) * (64 : Int)))).toNat :
                                                                Int)) |||
                                                          BitVec.ofInt (32 : Nat) (IntKind.i32.wrap (IntKind.u8.wrap v9))).toNat :
                                                    Int))),
                                            AV.one (Leaf.dat (Kd.int IntKind.i64) (3 : Int))],
                                      upd := [], new := [] })
                                  Tr.fail)
                                Tr.fail)
                              (Tr.ite (inB (3 : Int) s.size)
                                (Tr.ite (decide (v2 < (128 : Int)))
                                  (Tr.ret { rs := Slot.tup [AV.one (Leaf.dat (Kd.int IntKind.i32) (65533 : Int)), AV.one (Leaf.dat (Kd.int IntKind.i64) (1 : Int))], upd := [], new := [] })
                                  (Tr.ite (decide ((191 : Int) < v2))
                                    (Tr.ret { rs := Slot.tup [AV.one (Leaf.dat (Kd.int IntKind.i32) (65533 : Int)), AV.one (Leaf.dat (Kd.int IntKind.i64) (1 : Int))], upd := [], new := [] })
                                    (Tr.ite true
                                      (Tr.ite true
                                        (Tr.ite true
                                          (Tr.ret
                                            {
                                              rs :=
                                                Slot.tup
                                                  [AV.one
                                                      (Leaf.dat (Kd.int IntKind.i32)
                                                        (IntKind.i32.wrap
                                                          (↑(BitVec.ofInt (32 : Nat)
                                                                    (IntKind.i32.wrap
                                                                      (↑(BitVec.ofInt (32 : Nat)
                                                                                (IntKind.i32.wrap
                                                                                  (↑(BitVec.ofInt (32 : Nat)
                                                                                            (IntKind.i32.wrap
                                                                                              (IntKind.i32.wrap
                                                                                                  (IntKind.u8.wrap (↑(BitVec.ofInt (8 : Nat) v3 &&& BitVec.ofInt (8 : Nat) (7 : Int)).toNat : Int)) *
                                                                                                (262144 : Int))) |||
                                                                                          BitVec.ofInt (32 : Nat) (IntKind.i32.wrap (IntKind.i32.wrap (IntKind.u8.wrap v10) * (4096 : Int)))).toNat :
                                                                                    Int)) |||
                                                                              BitVec.ofInt (32 : Nat) (IntKind.i32.wrap (IntKind.i32.wrap (IntKind.u8.wrap v9) * (64 : Int)))).toNat :
                                                                        Int)) |||
                                                                  BitVec.ofInt (32 : Nat)
                                                                    (IntKind.i32.wrap (IntKind.u8.wrap (↑(BitVec.ofInt (8 : Nat) v2 &&& BitVec.ofInt (8 : Nat) (63 : Int)).toNat : Int)))).toNat :
                                                            Int))),
                                                    AV.one (Leaf.dat (Kd.int IntKind.i64) (4 : Int))],
                                              upd := [], new := [] })
                                          Tr.fail)
                                        Tr.fail)
                                      Tr.fail)))
                                Tr.fail))))
                        Tr.fail))))
                Tr.fail))
            Tr.fail)
          Tr.fail))
      Tr.fail)
    Tr.fail) := by
  subst h1; subst h2; subst h3; subst h4; subst h5; subst h6; subst h7; subst h8; subst h9; subst h10; subst h11; kernel_rfl
theorem t178 (n : Int)
    : evFn (E0.withFns []) Tryd.f178 [PM.data Kd.bool] (toAVs [Kd.int IntKind.i32] (n, ())) [] =
Tr.ite (decide ((0 : Int) ≤ n))
  (Tr.ite (decide (n < (55296 : Int))) (Tr.ret { rs := Slot.av (AV.one (Leaf.dat Kd.bool true)), upd := [], new := [] })
    (Tr.ite (decide ((57343 : Int) < n))
      (Tr.ite (decide (n ≤ (1114111 : Int))) (Tr.ret { rs := Slot.av (AV.one (Leaf.dat Kd.bool true)), upd := [], new := [] })
        (Tr.ret { rs := Slot.av (AV.one (Leaf.dat Kd.bool false)), upd := [], new := [] }))
      (Tr.ret { rs := Slot.av (AV.one (Leaf.dat Kd.bool false)), upd := [], new := [] })))
  (Tr.ite (decide ((57343 : Int) < n))
    (Tr.ite (decide (n ≤ (1114111 : Int))) (Tr.ret { rs := Slot.av (AV.one (Leaf.dat Kd.bool true)), upd := [], new := [] })
      (Tr.ret { rs := Slot.av (AV.one (Leaf.dat Kd.bool false)), upd := [], new := [] }))
    (Tr.ret { rs := Slot.av (AV.one (Leaf.dat Kd.bool false)), upd := [], new := [] })) := by
  kernel_rfl
theorem t180
    : evFn (E0.withFns []) Tryd.f180 [PM.data ((Kd.int IntKind.i32).pr ((Kd.int IntKind.i32).pr Kd.un)).sl] (toAVs [] ()) [] =
Tr.ret
  {
    rs :=
      Slot.av
        (AV.one
          (Leaf.dat ((Kd.int IntKind.i32).pr ((Kd.int IntKind.i32).pr Kd.un)).sl
            (setNth
              (setNth (setNth (replicateK ((Kd.int IntKind.i32).pr ((Kd.int IntKind.i32).pr Kd.un)) ((0 : Int), (0 : Int), ()) (3 : Nat)) (0 : Nat) ((768 : Int), (879 : Int), ())) (1 : Nat)
                ((8203 : Int), (8205 : Int), ()))
              (2 : Nat) ((65024 : Int), (65039 : Int), ())))),
    upd := [], new := [] } := by
  kernel_rfl
theorem t181
    : evFn (E0.withFns []) Tryd.f181 [PM.data ((Kd.int IntKind.i32).pr ((Kd.int IntKind.i32).pr Kd.un)).sl] (toAVs [] ()) [] =
Tr.ret
  {
    rs :=
      Slot.av
        (AV.one
          (Leaf.dat ((Kd.int IntKind.i32).pr ((Kd.int IntKind.i32).pr Kd.un)).sl
            (setNth
              (setNth
                (setNth
                  (setNth
                    (setNth
                      (setNth
                        (setNth (setNth (replicateK ((Kd.int IntKind.i32).pr ((Kd.int IntKind.i32).pr Kd.un)) ((0 : Int), (0 : Int), ()) (8 : Nat)) (0 : Nat) ((4352 : Int), (4447 : Int), ()))
                          (1 : Nat) ((12353 : Int), (19903 : Int), ()))
                        (2 : Nat) ((19968 : Int), (40959 : Int), ()))
                      (3 : Nat) ((44032 : Int), (55203 : Int), ()))
                    (4 : Nat) ((63744 : Int), (64255 : Int), ()))
                  (5 : Nat) ((65281 : Int), (65376 : Int), ()))
                (6 : Nat) ((127744 : Int), (129791 : Int), ()))
              (7 : Nat) ((131072 : Int), (262141 : Int), ())))),
    upd := [], new := [] } := by
  kernel_rfl
theorem t147 (a : Int) (b : Int) (c : Int)
    : evFn (E0.withFns []) Tryd.f147 [PM.data Kd.bool] (toAVs [Kd.int IntKind.i64, Kd.int IntKind.i64, Kd.int IntKind.i64] (a, b, c, ())) [] =
Tr.ite (decide (b ≤ a)) (Tr.ret { rs := Slot.av (AV.one (Leaf.dat Kd.bool (decide (a ≤ c)))), upd := [], new := [] }) (Tr.ret { rs := Slot.av (AV.one (Leaf.dat Kd.bool false)), upd := [], new := [] }) := by
  kernel_rfl
theorem t200 (a : Int) (b : Int) (r : Int)
    : evFn (E0.withFns []) Tryd.f200 [PM.data Kd.bool] [AV.agg [Leaf.dat (Kd.int IntKind.i32) a, Leaf.dat (Kd.int IntKind.i32) b], AV.one (Leaf.ptr (0 : Nat) (0 : Nat))] [Blk.box [Leaf.dat (Kd.int IntKind.i32) r]] =
Tr.ite (decide (a ≤ r)) (Tr.ret { rs := Slot.av (AV.one (Leaf.dat Kd.bool (decide (r ≤ b)))), upd := [Blk.box [Leaf.dat (Kd.int IntKind.i32) r]], new := [] })
  (Tr.ret { rs := Slot.av (AV.one (Leaf.dat Kd.bool false)), upd := [Blk.box [Leaf.dat (Kd.int IntKind.i32) r]], new := [] }) := by
  kernel_rfl
end Go.Proofs.YtdlbnlbajnafdaaDoor
end
section
set_option linter.unusedVariables false
set_option linter.unusedSimpArgs false
set_option maxRecDepth 20000
namespace Go.Ev
def ib (b : Bool) : SRes := { rs := one (.dat .bool b) }
def ii (n : Int) : SRes := { rs := one (.dat (.int .i64) n) }
@[reducible] def spk : Kd := .pr (.int .i32) (.pr (.int .i32) .un)
end Go.Ev
namespace U
open Go Go.Ev
def valid (r : Int) : Bool := (decide (0 ≤ r) && decide (r < 55296)) || (decide (57343 < r) && decide (r ≤ 1114111))
def zero : List (Int × Int × Unit) := [(768, 879, ()), (8203, 8205, ()), (65024, 65039, ())]
def wide : List (Int × Int × Unit) := [(4352, 4447, ()), (12353, 19903, ()), (19968, 40959, ()), (44032, 55203, ()), (63744, 64255, ()), (65281, 65376, ()), (127744, 129791, ()), (131072, 262141, ())]
def inn (a b c : Int) : Bool := decide (b ≤ a) && decide (a ≤ c)
def span (x : Int × Int × Unit) (r : Int) : Bool := decide (x.1 ≤ r) && decide (r ≤ x.2.1)
end U
namespace Go.Proofs.YtdlbnlbajnafdaaDoor
open Go.Ev Go.RowKit
abbrev rb (b : Bool) : FRes := ⟨one (.dat .bool b), [], []⟩
abbrev ri (n : Int) : FRes := ⟨one (.dat (.int .i64) n), [], []⟩
def w177 : FSpec := dspec [.str] fun x => ib (U.full x.1)
def w194 : FSpec := dspec [.str] fun x => { rs := .tup [.one (.dat (.int .i32) (U.dec x.1).1), .one (.dat (.int .i64) (U.dec x.1).2)] }
def w178 : FSpec := dspec [.int .i32] fun x => ib (U.valid x.1)
def w180 : FSpec := dspec [] fun _ => { rs := one (.dat (.sl spk) U.zero) }
def w181 : FSpec := dspec [] fun _ => { rs := one (.dat (.sl spk) U.wide) }
def w147 : FSpec := dspec [.int .i64, .int .i64, .int .i64] fun x => ib (U.inn x.1 x.2.1 x.2.2.1)
def w200 : FSpec := bspec [.d spk, .c (.ptr 0 0)] [.box [.d (.int .i32)]] fun x y => { rs := one (.dat .bool (U.span x.1 y.1.1)), upd := [.box [.dat (.int .i32) y.1.1]] }
theorem inB_true {i : Int} {n : Nat} (h : 0 ≤ i ∧ i < n) : inB i n = true := by simp [inB, h]
theorem wrap32_id {n : Int} (h0 : -2147483648 ≤ n) (h1 : n ≤ 2147483647) : IntKind.i32.wrap n = n := by
  rw [IntKind.wrap_i32]; omega
theorem m31 {x : Int} (h0 : 0 ≤ x) (h1 : x ≤ 255) : IntKind.u8.wrap (((BitVec.ofInt 8 x &&& BitVec.ofInt 8 31).toNat : Int)) = x % 32 := u8_and31 x h0 (by omega)
theorem v154 (s : ByteArray) : (evFn (E0.withFns []) Tryd.f177 [.data .bool] (toAVs [.str] (s, ())) []).val = some (rb (U.full s)) := by
  have b0 := bt_ge s 0
  have b1 := bt_lt s 0
  obtain ⟨x0, x1, big, hq, f0, f1, hl, hh, hx⟩ := U.row b0 b1
  have hq' : IntKind.i64.wrap (IntKind.u8.wrap (((BitVec.ofInt 8 (rget (.int .u8) U.firstL (bt s 0)) &&& BitVec.ofInt 8 7).toNat : Int))) = _ := hq
  rw [t177 s rfl rfl rfl rfl rfl]
  unfold U.full
  rw [hq']
  have i0 : inB (bt s 0) 256 = true := inB_true ⟨b0, by omega⟩
  have i1 : inB ((rget (.int .u8) U.firstL (bt s 0) : Int).fdiv 16) 16 = true := inB_true ⟨f0, f1⟩
  by_cases c0 : s.size = 0
  · simp [Tr.val, c0]; rfl
  have c0' : ¬ ((s.size : Int) = 0) := by omega
  have i2 : inB 0 s.size = true := inB_true ⟨by omega, by omega⟩
  rcases U.need_cases (bt s 0) with ⟨hn, hc⟩ | hn | hn
  · have e : ¬ (s.size : Int) < 1 := by omega
    have e1 : (decide ((0 : Int) ≤ (s.size : Int))) = true := by simp
    have e2 : (decide ((1 : Int) ≤ (s.size : Int))) = true := by simp; omega
    simp only [Tr.val, c0, c0', i0, i2, hn, hc, if_true, e1, e2, decide_false, cond_false, cond_true]
    rfl
  · have e2 : (decide ((1 : Int) ≤ (s.size : Int))) = true := by simp; omega
    have e3 : (decide ((0 : Int) ≤ (s.size : Int))) = true := by simp
    have hc : ¬ bt s 0 < 128 := by
      intro h
      unfold U.need at hn
      rw [if_pos h] at hn
      omega
    simp only [Tr.val, c0, c0', i0, i2, hn, hc, if_false, e2, e3, decide_false, cond_false, cond_true, if_pos (show (0 : Int) ≤ 1 by omega)]
    rfl
  · have hn2 : 2 ≤ U.need (bt s 0) := by omega
    have hc : ¬ bt s 0 < 128 := by omega
    have hn1 : ¬ U.need (bt s 0) ≤ 1 := by omega
    have hlo := hl hn2
    have hhi := hh hn2
    simp only [Tr.val, c0, c0', i0, i1, i2, hc, hn1, if_false, hlo, hhi, decide_false, cond_false, cond_true]
    by_cases c1 : U.need (bt s 0) ≤ (s.size : Int)
    · simp only [c1, decide_true, cond_true]; try rfl
    · simp only [c1, decide_false, cond_false]
      unfold U.ok1 U.cont
      by_cases c2 : 1 < s.size
      · have c2' : (1 : Int) < (s.size : Int) := by omega
        have i3 : inB 1 s.size = true := inB_true ⟨by omega, by omega⟩
        by_cases c3 : bt s 1 < U.lo (bt s 0)
        · have c4 : ¬ U.lo (bt s 0) ≤ bt s 1 := by omega
          simp only [c2, c2', i3, c3, c4, decide_true, decide_false, cond_true, cond_false, Bool.false_and, Bool.not_false, Bool.and_self]; try rfl
        · have c4 : U.lo (bt s 0) ≤ bt s 1 := by omega
          by_cases c5 : U.hi (bt s 0) < bt s 1
          · have c6 : ¬ bt s 1 ≤ U.hi (bt s 0) := by omega
            simp only [c2, c2', i3, c3, c4, c5, c6, decide_true, decide_false, cond_true, cond_false, Bool.and_false, Bool.not_false, Bool.and_self]; try rfl
          · have c6 : bt s 1 ≤ U.hi (bt s 0) := by omega
            by_cases c7 : 2 < s.size
            · have c7' : (2 : Int) < (s.size : Int) := by omega
              have i4 : inB 2 s.size = true := inB_true ⟨by omega, by omega⟩
              by_cases c8 : bt s 2 < 128
              · have c9 : ¬ 128 ≤ bt s 2 := by omega
                simp only [c2, c2', i3, i4, c3, c4, c5, c6, c7, c7', c8, c9, decide_true, decide_false, cond_true, cond_false, Bool.and_false, Bool.false_and, Bool.not_false, Bool.not_true, Bool.and_self]; try rfl
              · have c9 : 128 ≤ bt s 2 := by omega
                by_cases c10 : 191 < bt s 2
                · have c11 : ¬ bt s 2 ≤ 191 := by omega
                  simp only [c2, c2', i3, i4, c3, c4, c5, c6, c7, c7', c8, c9, c10, c11, decide_true, decide_false, cond_true, cond_false, Bool.and_false, Bool.false_and, Bool.not_false, Bool.not_true, Bool.and_self]; try rfl
                · have c11 : bt s 2 ≤ 191 := by omega
                  simp only [c2, c2', i3, i4, c3, c4, c5, c6, c7, c7', c8, c9, c10, c11, decide_true, decide_false, cond_true, cond_false, Bool.and_false, Bool.false_and, Bool.not_false, Bool.not_true, Bool.and_self]; try rfl
            · have c7' : ¬ (2 : Int) < (s.size : Int) := by omega
              simp only [c2, c2', i3, c3, c4, c5, c6, c7, c7', decide_true, decide_false, cond_true, cond_false, Bool.and_false, Bool.false_and, Bool.not_false, Bool.not_true, Bool.and_self]; try rfl
      · have c2' : ¬ (1 : Int) < (s.size : Int) := by omega
        have c7 : ¬ 2 < s.size := by omega
        have c7' : ¬ (2 : Int) < (s.size : Int) := by omega
        simp only [c2, c2', c7, c7', decide_true, decide_false, cond_true, cond_false, Bool.and_false, Bool.false_and, Bool.not_false, Bool.not_true, Bool.and_self]; try rfl
theorem wk177 : SpecOK Tryd.prog E0 177 w177 := by
  refine dspec_ok (E0 := E0) (E := E0.withFns []) (fns := []) tab .nil rfl rfl hm Tryd.func177 (by kernel_rfl) [.data .bool] (fun x hx => ?_)
  obtain ⟨s, z⟩ := x
  exact v154 s
abbrev rd (x : Int × Int) : FRes := ⟨.tup [.one (.dat (.int .i32) x.1), .one (.dat (.int .i64) x.2)], [], []⟩
theorem keepb : ∀ x : Fin 256, IntKind.i32.wrap (((BitVec.ofInt 32 (IntKind.i32.wrap (((BitVec.ofInt 32 (IntKind.i32.wrap ((x.val : Nat) : Int)) &&& ~~~BitVec.ofInt 32 ((IntKind.i32.wrap (IntKind.i32.wrap 240 * 2147483648)).fdiv 2147483648)).toNat : Int))) |||
    BitVec.ofInt 32 (IntKind.i32.wrap (((BitVec.ofInt 32 65533 &&& BitVec.ofInt 32 ((IntKind.i32.wrap (IntKind.i32.wrap 240 * 2147483648)).fdiv 2147483648)).toNat : Int)))).toNat : Int)) = ((x.val : Nat) : Int) := by decide +kernel
theorem dropb : ∀ x : Fin 256, IntKind.i32.wrap (((BitVec.ofInt 32 (IntKind.i32.wrap (((BitVec.ofInt 32 (IntKind.i32.wrap ((x.val : Nat) : Int)) &&& ~~~BitVec.ofInt 32 ((IntKind.i32.wrap (IntKind.i32.wrap 241 * 2147483648)).fdiv 2147483648)).toNat : Int))) |||
    BitVec.ofInt 32 (IntKind.i32.wrap (((BitVec.ofInt 32 65533 &&& BitVec.ofInt 32 ((IntKind.i32.wrap (IntKind.i32.wrap 241 * 2147483648)).fdiv 2147483648)).toNat : Int)))).toNat : Int)) = 65533 := by decide +kernel
theorem keep_b {b : Int} (h0 : 0 ≤ b) (h1 : b ≤ 255) : IntKind.i32.wrap (((BitVec.ofInt 32 (IntKind.i32.wrap (((BitVec.ofInt 32 (IntKind.i32.wrap b) &&& ~~~BitVec.ofInt 32 ((IntKind.i32.wrap (IntKind.i32.wrap 240 * 2147483648)).fdiv 2147483648)).toNat : Int))) |||
    BitVec.ofInt 32 (IntKind.i32.wrap (((BitVec.ofInt 32 65533 &&& BitVec.ofInt 32 ((IntKind.i32.wrap (IntKind.i32.wrap 240 * 2147483648)).fdiv 2147483648)).toNat : Int)))).toNat : Int)) = b := by
  obtain ⟨n, rfl⟩ := Int.eq_ofNat_of_zero_le h0
  exact keepb ⟨n, by omega⟩
theorem drop_b {b : Int} (h0 : 0 ≤ b) (h1 : b ≤ 255) : IntKind.i32.wrap (((BitVec.ofInt 32 (IntKind.i32.wrap (((BitVec.ofInt 32 (IntKind.i32.wrap b) &&& ~~~BitVec.ofInt 32 ((IntKind.i32.wrap (IntKind.i32.wrap 241 * 2147483648)).fdiv 2147483648)).toNat : Int))) |||
    BitVec.ofInt 32 (IntKind.i32.wrap (((BitVec.ofInt 32 65533 &&& BitVec.ofInt 32 ((IntKind.i32.wrap (IntKind.i32.wrap 241 * 2147483648)).fdiv 2147483648)).toNat : Int)))).toNat : Int)) = 65533 := by
  obtain ⟨n, rfl⟩ := Int.eq_ofNat_of_zero_le h0
  exact dropb ⟨n, by omega⟩
theorem lo_ge (c : Int) : 128 ≤ U.lo c := by
  unfold U.lo
  repeat' split
  all_goals omega
theorem hi_le (c : Int) : U.hi c ≤ 191 := by
  unfold U.hi
  repeat' split
  all_goals omega
end Go.Proofs.YtdlbnlbajnafdaaDoor
end
section
set_option linter.unusedVariables false
set_option linter.unusedSimpArgs false
set_option maxRecDepth 20000
namespace U
open Go Go.Ev
abbrev Sp := Int × Int × Unit
def fi (l : List Sp) (r : Int) : Option Nat := findN (fun j => span (l.getD j (0, 0, ())) r) l.length 0
def idx (l : List Sp) (r : Int) : Int := match fi l r with
  | some j => (j : Int)
  | none => -1
def within (l : List Sp) (r : Int) : Bool := l.any fun x => span x r
theorem idx_within (l : List Sp) (r : Int) : decide (0 ≤ idx l r) = within l r := by
  have h := find_any (fun x => span x r) (0, 0, ()) l
  have h' : (fi l r).isSome = within l r := h
  rw [← h']
  unfold idx
  cases fi l r with
  | none => rfl
  | some j => exact decide_eq_true (by show (0 : Int) ≤ (j : Int); omega)
end U
namespace Go.Proofs.YtdlbnlbajnafdaaDoor
open Go.Ev Go.RowKit
def w163 : FSpec := w194
def w214 : FSpec := bspec [.d (.sl spk), .c (.fn 200 [0])] [.box [.d (.int .i32)]] fun x y => { c := some (decide (List.length x.1 ≤ 1048576)), rs := one (.dat (.int .i64) (U.idx x.1 y.1.1)), upd := [.box [.dat (.int .i32) y.1.1]] }
def w199 : FSpec := bspec [.d (.sl spk), .c (.fn 200 [0])] [.box [.d (.int .i32)]] fun x y => { c := some (decide (List.length x.1 ≤ 1048576)), rs := one (.dat .bool (U.within x.1 y.1.1)), upd := [.box [.dat (.int .i32) y.1.1]] }
def w179 : FSpec := dspec [.sl spk, .int .i32] fun x => { c := some (decide (List.length x.1 ≤ 1048576)), rs := one (.dat .bool (U.within x.1 x.2.1)) }
def F1 : List (Nat × FSpec) := [(194, w194)]
def F2 : List (Nat × FSpec) := [(200, w200)]
def F3 : List (Nat × FSpec) := [(214, w214)]
def F4 : List (Nat × FSpec) := [(199, w199)]
def F5 : List (Nat × FSpec) := [(178, w178), (179, w179), (180, w180), (181, w181)]
def live214 (key : Nat) : Lv := bif Nat.beq key 2 then { ls := [0, 1, 7, 8] } else bif Nat.beq key 1002 then { ls := [4] } else { ls := [] }
@[reducible] def p214 : LP := { n := 19, sl := [.d (.sl spk), .c (.fn 200 [0]), .d (.int .i64), .d (.int .i64)], bl := [(0, .box [.d (.int .i32)])] }
def B214 (x : p214.T) : Tr (p214.T ⊕ (Ex × VS)) :=
 .ite (decide ((x.1.2.2.1 : Int) < (x.1.2.1 : Int))) (.ite (inB x.1.2.2.1 (List.length (α := U.Sp) x.1.1)) (.ite (U.span ((rget spk x.1.1 x.1.2.2.1).1, (rget spk x.1.1 x.1.2.2.1).2.1, ()) x.2.1.1) (.ret (.inr (.ret, ⟨19, [dI .i64 x.1.2.2.1], [(0, .box [.dat (.int .i32) x.2.1.1])]⟩))) (.ret (.inl ((x.1.1, x.1.2.1, IntKind.i64.wrap (x.1.2.2.1 + 1), ()), x.2)))) .fail) (.ret (.inr (.exit 0, ⟨19, [hole0], [(0, .box [.dat (.int .i32) x.2.1.1])]⟩)))
def tr177 (x : p214.T) : Tr (Ex × VS) :=
  .ite (decide ((x.1.2.1 : Int) = (List.length (α := U.Sp) x.1.1 : Int) ∧ (x.1.2.2.1 : Int) = 0 ∧ List.length (α := U.Sp) x.1.1 ≤ 1048576))
    (.ite ((U.fi x.1.1 x.2.1.1).isSome)
      (.ret (.ret, ⟨19, [dI .i64 (((U.fi x.1.1 x.2.1.1).getD 0 : Nat) : Int)], [(0, .box [.dat (.int .i32) x.2.1.1])]⟩))
      (.ret (.exit 0, ⟨19, [hole0], [(0, .box [.dat (.int .i32) x.2.1.1])]⟩))) .fail
def ls177 (key : Nat) (x : VS) : Option (Tr (Ex × VS)) := bif Nat.beq key 2 then p214.ls tr177 x else none
abbrev E214 : Env := (E0.withFns F2).loops live214 ls177
theorem hB214 (x : p214.T) : (evC (evI 2) (lc Tryd.f214 0) (E214.lend 1) (unV [0, 1, 7, 8] (p214.V x))).map (decL 1 [0, 1, 7, 8] [4]) = (B214 x).map (encL p214.V) := by
  obtain ⟨⟨xs, n, i, z⟩, ⟨r, z'⟩, z''⟩ := x
  kernel_rfl
theorem hc177 (x : p214.T) : canV 1 [0, 1, 7, 8] (unV [0, 1, 7, 8] (p214.V x)) = p214.V x := by
  obtain ⟨⟨xs, n, i, z⟩, ⟨r, z'⟩, z''⟩ := x
  kernel_rfl
theorem run214 (xs : List U.Sp) (r : Int) (z z' z'' : Unit) (hl : xs.length ≤ 1048576) : runB B214 (xs.length + 1) ((xs, (xs.length : Int), 0, z), (r, z'), z'') =
    some (outN (U.fi xs r) (fun j => (Ex.ret, ⟨19, [dI .i64 (j : Int)], [(0, .box [.dat (.int .i32) r])]⟩)) (Ex.exit 0, ⟨19, [hole0], [(0, .box [.dat (.int .i32) r])]⟩)) := by
  refine runB_find (B := B214) (N := xs.length) (fun i => ((xs, (xs.length : Int), (i : Int), z), (r, z'), z'')) _ (fun j => (Ex.ret, ⟨19, [dI .i64 (j : Int)], [(0, .box [.dat (.int .i32) r])]⟩)) _ (fun i hi => ?_) ?_ xs.length 0 (by omega)
  · have h1 : decide ((i : Int) < (xs.length : Int)) = true := decide_eq_true (by omega)
    have h2 : inB (i : Int) xs.length = true := inB_nat hi
    simp only [B214, Tr.val, h1, h2, cond_true, rget_nat, wrap64_nat (show i ≤ 1048576 by omega)]
    show (bif U.span (xs.getD i (0, 0, ())) r then _ else _) = _
    cases U.span (xs.getD i (0, 0, ())) r <;> rfl
  · have h1 : decide ((xs.length : Int) < (xs.length : Int)) = false := decide_eq_false (by omega)
    simp only [B214, Tr.val, h1, cond_false]
theorem loop177 : LoopOK (evI 2) (E214.lend 1) (lc Tryd.f214 0) := by
  refine loopP 2 { ls := [0, 1, 7, 8] } { ls := [4] } p214 B214 tr177 (by kernel_rfl) rfl rfl (fun x => rfl) hB214 hc177 ?_
  rintro ⟨⟨xs, n, i, z⟩, ⟨r, z'⟩, z''⟩ q hq
  simp only [tr177, Tr.val] at hq
  cases hd : decide ((n : Int) = (List.length (α := U.Sp) xs : Int) ∧ (i : Int) = 0 ∧ List.length (α := U.Sp) xs ≤ 1048576) with
  | false => rw [hd] at hq; cases hq
  | true =>
    rw [hd] at hq
    have hd' : (n : Int) = (List.length (α := U.Sp) xs : Int) ∧ (i : Int) = 0 ∧ List.length (α := U.Sp) xs ≤ 1048576 := of_decide_eq_true hd
    obtain ⟨rfl, rfl, hl⟩ := hd'
    refine ⟨List.length (α := U.Sp) xs + 1, (run214 xs r z z' z'' hl).trans ?_⟩
    rw [← hq]
    cases U.fi xs r <;> rfl
theorem t214 (xs : List U.Sp) (r : Int) : evFn E214 Tryd.f214 [.data (.int .i64)] (akAV [.d (.sl spk), .c (.fn 200 [0])] (xs, ())) (bkBs [.box [.d (.int .i32)]] ((r, ()), ())) =
    .ite (decide ((xs.length : Int) = (xs.length : Int) ∧ (0 : Int) = 0 ∧ xs.length ≤ 1048576))
      (.ite ((U.fi xs r).isSome) (.ret ⟨one (.dat (.int .i64) (((U.fi xs r).getD 0 : Nat) : Int)), [.box [.dat (.int .i32) r]], []⟩) (.ret ⟨one (.dat (.int .i64) (-1 : Int)), [.box [.dat (.int .i32) r]], []⟩)) .fail := by kernel_rfl
theorem wk200 : SpecOK Tryd.prog E0 200 w200 := by
  refine bspec_ok (E0 := E0) (E := E0.withFns []) (fns := []) tab .nil rfl rfl hm Tryd.func200 (by kernel_rfl) [.data .bool] (fun x y hc => ?_)
  obtain ⟨⟨a, b, z⟩, z'⟩ := x
  obtain ⟨⟨r, z''⟩, z3⟩ := y
  have e : evFn (E0.withFns []) Tryd.f200 [.data .bool] (akAV [.d spk, .c (.ptr 0 0)] ((a, b, z), z')) (bkBs [.box [.d (.int .i32)]] ((r, z''), z3)) = _ := t200 a b r
  rw [e]
  show Tr.val _ = some (⟨one (.dat .bool (decide (a ≤ r) && decide (r ≤ b))), [.box [.dat (.int .i32) r]], []⟩ : FRes)
  cases h : decide (a ≤ r) <;> simp only [Tr.val, h, cond_true, cond_false, Bool.true_and, Bool.false_and] <;> rfl
theorem A2 : AllFn Tryd.prog E0 F2 := .cons wk200 .nil
theorem wk214 : SpecOK Tryd.prog E0 214 w214 := by
  refine bspec_ok (E0 := E0) (E := E214) (fns := F2) tab A2 rfl rfl hm Tryd.func214 (by kernel_rfl) [.data (.int .i64)] (fun x y hc => ?_) (L := ls_ok (lcs := [lc Tryd.f214 0]) (rgs := []) (by kernel_rfl) (by kernel_rfl) loop177 trivial)
  obtain ⟨xs, z⟩ := x
  obtain ⟨⟨r, z'⟩, z''⟩ := y
  have hl : xs.length ≤ 1048576 := by simpa using hc
  have e := t214 xs r
  refine (congrArg Tr.val e).trans ?_
  rw [show (decide ((xs.length : Int) = (xs.length : Int) ∧ (0 : Int) = 0 ∧ xs.length ≤ 1048576)) = true from by simpa using hl]
  show Tr.val _ = some (⟨one (.dat (.int .i64) (U.idx xs r)), [.box [.dat (.int .i32) r]], []⟩ : FRes)
  unfold U.idx
  cases U.fi xs r <;> rfl
theorem wk178 : SpecOK Tryd.prog E0 178 w178 := by
  refine dspec_ok (E0 := E0) (E := E0.withFns []) (fns := []) tab .nil rfl rfl hm Tryd.func178 (by kernel_rfl) [.data .bool] (fun x hc => ?_)
  obtain ⟨n, z⟩ := x
  have e : evFn (E0.withFns []) Tryd.f178 [.data .bool] (toAVs [.int .i32] (n, z)) [] = _ := t178 n
  rw [e]
  show Tr.val _ = some (rb (U.valid n))
  unfold U.valid
  by_cases a : (0 : Int) ≤ n <;> by_cases b : n < 55296 <;> by_cases c : (57343 : Int) < n <;> by_cases d : n ≤ 1114111 <;>
    simp only [Tr.val, a, b, c, d, decide_true, decide_false, cond_true, cond_false, Bool.true_and, Bool.and_true, Bool.false_and, Bool.and_false, Bool.or_true, Bool.true_or, Bool.or_false, Bool.or_self] <;> rfl
theorem wk180 : SpecOK Tryd.prog E0 180 w180 := by
  refine dspec_ok (E0 := E0) (E := E0.withFns []) (fns := []) tab .nil rfl rfl hm Tryd.func180 (by kernel_rfl) [.data (.sl spk)] (fun x hc => ?_)
  rw [show toAVs [] x = toAVs [] () from rfl, t180]
  rfl
theorem wk181 : SpecOK Tryd.prog E0 181 w181 := by
  refine dspec_ok (E0 := E0) (E := E0.withFns []) (fns := []) tab .nil rfl rfl hm Tryd.func181 (by kernel_rfl) [.data (.sl spk)] (fun x hc => ?_)
  rw [show toAVs [] x = toAVs [] () from rfl, t181]
  rfl
theorem wk147 : SpecOK Tryd.prog E0 147 w147 := by
  refine dspec_ok (E0 := E0) (E := E0.withFns []) (fns := []) tab .nil rfl rfl hm Tryd.func147 (by kernel_rfl) [.data .bool] (fun x hc => ?_)
  obtain ⟨a, b, c, z⟩ := x
  have e : evFn (E0.withFns []) Tryd.f147 [.data .bool] (toAVs [.int .i64, .int .i64, .int .i64] (a, b, c, z)) [] = _ := t147 a b c
  rw [e]
  show Tr.val _ = some (rb (U.inn a b c))
  unfold U.inn
  by_cases h : b ≤ a <;> simp only [Tr.val, h, decide_true, decide_false, cond_true, cond_false, Bool.true_and, Bool.false_and] <;> rfl
end Go.Proofs.YtdlbnlbajnafdaaDoor
end
section
set_option linter.unusedVariables false
set_option linter.unusedSimpArgs false
set_option maxRecDepth 20000
namespace U
open Go Go.Ev
def width (r : Int) : Int := bif !valid r || (decide (r < 32) || (decide (127 ≤ r) && decide (r < 160))) then -1 else bif within zero r then 0 else bif within wide r then 2 else 1
def bad (s : ByteArray) : Int := bif decide (need (bt s 0) = 0) then 1 else bif !ok1 s then 1 else bif !cont (bt s 2) then 2 else 3
def isL (s : ByteArray) : Bool := !decide ((dec s).1 = 65533) || decide (1 < (dec s).2)
def first (s : ByteArray) : Int × Int × Int := bif !full s then (0, 0, 2) else bif isL s then ((dec s).1, (dec s).2, 0) else (0, bad s, 4)
def look (a : Int × Int × Int × Unit) : Bool := inn a.1 0 256 && (inn a.2.1 0 256 && inn a.2.2.1 0 255)
end U
namespace Go.Proofs.YtdlbnlbajnafdaaDoor
open Go.Ev Go.RowKit
@[reducible] def attk : Kd := .pr (.int .i64) (.pr (.int .i64) (.pr (.int .i64) .un))
@[reducible] def celk : Kd := .pr .str (.pr (.int .i64) (.pr attk .un))
@[reducible] def link : Kd := .pr (.sl celk) (.pr .bool .un)
def w149 : FSpec := dspec [.int .i32] fun x => ii (U.width x.1)
def w148 : FSpec := dspec [.str] fun x => { c := some (decide (ByteArray.size x.1 ≤ 1048576)), rs := .tup [.one (.dat (.int .i32) (U.first x.1).1), .one (.dat (.int .i64) (U.first x.1).2.1), .one (.dat (.int .i64) (U.first x.1).2.2)] }
def w146 : FSpec := dspec [attk] fun x => ib (U.look x.1)
def F6 : List (Nat × FSpec) := [(177, w177), (163, w163)]
def F7 : List (Nat × FSpec) := [(147, w147)]
def live148 (key : Nat) : Lv := bif Nat.beq key 6 then { ls := [0, 6] } else bif Nat.beq key 1006 then { ls := [6] } else { ls := [] }
abbrev E148 : Env := { (E0.withFns F6).loops live148 (fun _ _ => none) with fuel := 4 }
end Go.Proofs.YtdlbnlbajnafdaaDoor
end
section
set_option linter.unusedVariables false
set_option maxRecDepth 20000
namespace Go.Proofs.YtdlbnlbajnafdaaDoor
open Go.Ev Go.RowKit
theorem t149 (r : Int)
    : evFn (E0.withFns F5) Tryd.f149 [PM.data (Kd.int IntKind.i64)] (toAVs [Kd.int IntKind.i32] (r, ())) [] =
Tr.ite (!U.valid r) (Tr.ret { rs := Slot.av (AV.one (Leaf.dat (Kd.int IntKind.i64) (-1 : Int))), upd := [], new := [] })
  (Tr.ite (decide (r < (32 : Int))) (Tr.ret { rs := Slot.av (AV.one (Leaf.dat (Kd.int IntKind.i64) (-1 : Int))), upd := [], new := [] })
    (Tr.ite (decide ((127 : Int) ≤ r))
      (Tr.ite (decide (r < (160 : Int))) (Tr.ret { rs := Slot.av (AV.one (Leaf.dat (Kd.int IntKind.i64) (-1 : Int))), upd := [], new := [] })
        (Tr.ite true
          (Tr.ite (U.within U.zero r) (Tr.ret { rs := Slot.av (AV.one (Leaf.dat (Kd.int IntKind.i64) (0 : Int))), upd := [], new := [] })
            (Tr.ite true
              (Tr.ite (U.within U.wide r) (Tr.ret { rs := Slot.av (AV.one (Leaf.dat (Kd.int IntKind.i64) (2 : Int))), upd := [], new := [] })
                (Tr.ret { rs := Slot.av (AV.one (Leaf.dat (Kd.int IntKind.i64) (1 : Int))), upd := [], new := [] }))
              Tr.fail))
          Tr.fail))
      (Tr.ite true
        (Tr.ite (U.within U.zero r) (Tr.ret { rs := Slot.av (AV.one (Leaf.dat (Kd.int IntKind.i64) (0 : Int))), upd := [], new := [] })
          (Tr.ite true
            (Tr.ite (U.within U.wide r) (Tr.ret { rs := Slot.av (AV.one (Leaf.dat (Kd.int IntKind.i64) (2 : Int))), upd := [], new := [] })
              (Tr.ret { rs := Slot.av (AV.one (Leaf.dat (Kd.int IntKind.i64) (1 : Int))), upd := [], new := [] }))
            Tr.fail))
        Tr.fail))) := by
  kernel_rfl
theorem t148 (s : ByteArray) {v1 : Int} {v2 : Int} {v3 : Int} {v4 : Int}
    (h1 : ((U.dec s).snd + (1 : Int)) = v1)
    (h2 : (IntKind.i64.wrap v1 + (1 : Int)) = v2)
    (h3 : (IntKind.i64.wrap v2 + (1 : Int)) = v3)
    (h4 : (IntKind.i64.wrap v3 + (1 : Int)) = v4)
    : evFn E148 Tryd.f148 [PM.data (Kd.int IntKind.i32), PM.data (Kd.int IntKind.i64), PM.data (Kd.int IntKind.i64)] (toAVs [Kd.str] (s, ())) [] =
Tr.ite (!U.full s)
  (Tr.ret
    { rs := Slot.tup [AV.one (Leaf.dat (Kd.int IntKind.i32) (0 : Int)), AV.one (Leaf.dat (Kd.int IntKind.i64) (0 : Int)), AV.one (Leaf.dat (Kd.int IntKind.i64) (2 : Int))], upd := [], new := [] })
  (Tr.ite (!decide ((U.dec s).fst = (65533 : Int)))
    (Tr.ret
      { rs := Slot.tup [AV.one (Leaf.dat (Kd.int IntKind.i32) (U.dec s).fst), AV.one (Leaf.dat (Kd.int IntKind.i64) (U.dec s).snd), AV.one (Leaf.dat (Kd.int IntKind.i64) (0 : Int))], upd := [],
        new := [] })
    (Tr.ite (decide ((1 : Int) < (U.dec s).snd))
      (Tr.ret
        { rs := Slot.tup [AV.one (Leaf.dat (Kd.int IntKind.i32) (U.dec s).fst), AV.one (Leaf.dat (Kd.int IntKind.i64) (U.dec s).snd), AV.one (Leaf.dat (Kd.int IntKind.i64) (0 : Int))], upd := [],
          new := [] })
      (Tr.ite (decide ((U.dec s).snd < (↑s.size : Int)))
        (Tr.ite (decide ((0 : Int) ≤ IntKind.i64.wrap v1 ∧ IntKind.i64.wrap v1 ≤ (↑s.size : Int)))
          (Tr.ite (!U.full (s.extract (0 : Nat) (IntKind.i64.wrap v1).toNat))
            (Tr.ite (decide (IntKind.i64.wrap v1 < (↑s.size : Int)))
              (Tr.ite (decide ((0 : Int) ≤ IntKind.i64.wrap v2 ∧ IntKind.i64.wrap v2 ≤ (↑s.size : Int)))
                (Tr.ite (!U.full (s.extract (0 : Nat) (IntKind.i64.wrap v2).toNat))
                  (Tr.ite (decide (IntKind.i64.wrap v2 < (↑s.size : Int)))
                    (Tr.ite (decide ((0 : Int) ≤ IntKind.i64.wrap v3 ∧ IntKind.i64.wrap v3 ≤ (↑s.size : Int)))
                      (Tr.ite (!U.full (s.extract (0 : Nat) (IntKind.i64.wrap v3).toNat))
                        (Tr.ite (decide (IntKind.i64.wrap v3 < (↑s.size : Int)))
                          (Tr.ite (decide ((0 : Int) ≤ IntKind.i64.wrap v4 ∧ IntKind.i64.wrap v4 ≤ (↑s.size : Int)))
                            (Tr.ite (!U.full (s.extract (0 : Nat) (IntKind.i64.wrap v4).toNat)) Tr.fail
                              (Tr.ret
                                {
                                  rs :=
                                    Slot.tup
                                      [AV.one (Leaf.dat (Kd.int IntKind.i32) (0 : Int)), AV.one (Leaf.dat (Kd.int IntKind.i64) (IntKind.i64.wrap v3)),
                                        AV.one (Leaf.dat (Kd.int IntKind.i64) (4 : Int))],
                                  upd := [], new := [] }))
                            Tr.fail)
                          (Tr.ret
                            {
                              rs :=
                                Slot.tup
                                  [AV.one (Leaf.dat (Kd.int IntKind.i32) (0 : Int)), AV.one (Leaf.dat (Kd.int IntKind.i64) (IntKind.i64.wrap v3)), AV.one (Leaf.dat (Kd.int IntKind.i64) (4 : Int))],
                              upd := [], new := [] }))
                        (Tr.ret
                          {
                            rs :=
                              Slot.tup
                                [AV.one (Leaf.dat (Kd.int IntKind.i32) (0 : Int)), AV.one (Leaf.dat (Kd.int IntKind.i64) (IntKind.i64.wrap v2)), AV.one (Leaf.dat (Kd.int IntKind.i64) (4 : Int))],
                            upd := [], new := [] }))
                      Tr.fail)
                    (Tr.ret
                      {
                        rs :=
                          Slot.tup [AV.one (Leaf.dat (Kd.int IntKind.i32) (0 : Int)), AV.one (Leaf.dat (Kd.int IntKind.i64) (IntKind.i64.wrap v2)), AV.one (Leaf.dat (Kd.int IntKind.i64) (4 : Int))],
                        upd := [], new := [] }))
                  (Tr.ret
                    { rs := Slot.tup [AV.one (Leaf.dat (Kd.int IntKind.i32) (0 : Int)), AV.one (Leaf.dat (Kd.int IntKind.i64) (IntKind.i64.wrap v1)), AV.one (Leaf.dat (Kd.int IntKind.i64) (4 : Int))],
                      upd := [], new := [] }))
                Tr.fail)
              (Tr.ret
                { rs := Slot.tup [AV.one (Leaf.dat (Kd.int IntKind.i32) (0 : Int)), AV.one (Leaf.dat (Kd.int IntKind.i64) (IntKind.i64.wrap v1)), AV.one (Leaf.dat (Kd.int IntKind.i64) (4 : Int))],
                  upd := [], new := [] }))
            (Tr.ret
              { rs := Slot.tup [AV.one (Leaf.dat (Kd.int IntKind.i32) (0 : Int)), AV.one (Leaf.dat (Kd.int IntKind.i64) (U.dec s).snd), AV.one (Leaf.dat (Kd.int IntKind.i64) (4 : Int))], upd := [],
                new := [] }))
          Tr.fail)
        (Tr.ret
          { rs := Slot.tup [AV.one (Leaf.dat (Kd.int IntKind.i32) (0 : Int)), AV.one (Leaf.dat (Kd.int IntKind.i64) (U.dec s).snd), AV.one (Leaf.dat (Kd.int IntKind.i64) (4 : Int))], upd := [],
            new := [] })))) := by
  subst h1; subst h2; subst h3; subst h4; kernel_rfl
theorem t163 (s : ByteArray) {v1 : Int}
    (h1 : (bt s (0 : Int)) = v1)
    : evFn (E0.withFns F1) Tryd.f163 [PM.data (Kd.int IntKind.i32), PM.data (Kd.int IntKind.i64)] (toAVs [Kd.str] (s, ())) [] =
Tr.ite (!decide (s = { data := #[] }))
  (Tr.ite (inB (0 : Int) s.size)
    (Tr.ite (decide (v1 < (128 : Int)))
      (Tr.ite (inB (0 : Int) s.size) (Tr.ret { rs := Slot.tup [AV.one (Leaf.dat (Kd.int IntKind.i32) (IntKind.i32.wrap v1)), AV.one (Leaf.dat (Kd.int IntKind.i64) (1 : Int))], upd := [], new := [] })
        Tr.fail)
      (Tr.ret { rs := Slot.tup [AV.one (Leaf.dat (Kd.int IntKind.i32) (U.dec s).fst), AV.one (Leaf.dat (Kd.int IntKind.i64) (U.dec s).snd)], upd := [], new := [] }))
    Tr.fail)
  (Tr.ret { rs := Slot.tup [AV.one (Leaf.dat (Kd.int IntKind.i32) (U.dec s).fst), AV.one (Leaf.dat (Kd.int IntKind.i64) (U.dec s).snd)], upd := [], new := [] }) := by
  subst h1; kernel_rfl
theorem t146 (a : Int) (b : Int) (c : Int)
    : evFn (E0.withFns F7) Tryd.f146 [PM.data Kd.bool] (toAVs [attk] ((a, b, c, ()), ())) [] =
Tr.ite (U.inn a (0 : Int) (256 : Int))
  (Tr.ite (U.inn b (0 : Int) (256 : Int)) (Tr.ret { rs := Slot.av (AV.one (Leaf.dat Kd.bool (U.inn c (0 : Int) (255 : Int)))), upd := [], new := [] })
    (Tr.ret { rs := Slot.av (AV.one (Leaf.dat Kd.bool false)), upd := [], new := [] }))
  (Tr.ret { rs := Slot.av (AV.one (Leaf.dat Kd.bool false)), upd := [], new := [] }) := by
  kernel_rfl
end Go.Proofs.YtdlbnlbajnafdaaDoor
end
section
set_option linter.unusedVariables false
set_option linter.unusedSimpArgs false
set_option maxRecDepth 20000
namespace U
open Go Go.Ev Go.Proofs.YtdlbnlbajnafdaaDoor
theorem bt_pre {s : ByteArray} {k i : Nat} (h : i < k) (hk : k ≤ s.size) : bt (s.extract 0 k) (i : Int) = bt s (i : Int) := by
  rw [bt_eq (by omega), bt_eq (by omega), bl_ext, List.drop_zero]
  simp only [List.getD_eq_getElem?_getD, Int.toNat_natCast]
  rw [List.getElem?_take_of_lt h]
theorem size_pre {s : ByteArray} {k : Nat} (hk : k ≤ s.size) : (s.extract 0 k).size = k := by
  rw [← bl_len, bl_ext, List.drop_zero, List.length_take, bl_len]
  omega
theorem full_pre {s : ByteArray} {k : Nat} (h1 : 1 ≤ k) (hk : k ≤ s.size) : full (s.extract 0 k) =
    (bif decide (need (bt s 0) ≤ (k : Int)) then true else bif decide (1 < k) && !ok1 s then true else decide (2 < k) && !cont (bt s 2)) := by
  unfold full
  have e0 : bt (s.extract 0 k) 0 = bt s 0 := bt_pre (i := 0) (by omega) hk
  have e2 : 2 < k → bt (s.extract 0 k) 2 = bt s 2 := fun h => bt_pre (i := 2) h hk
  have e1 : 1 < k → ok1 (s.extract 0 k) = ok1 s := fun h => by
    unfold ok1
    have e1 : bt (s.extract 0 k) 1 = bt s 1 := bt_pre (i := 1) h hk
    rw [e0, e1]
  rw [size_pre hk, e0, decide_eq_false (show ¬ k = 0 by omega), cond_false]
  by_cases h : 1 < k
  · rw [e1 h]
    by_cases h2 : 2 < k
    · rw [e2 h2]
    · simp only [h2, decide_false, Bool.false_and]
  · have h2 : ¬ 2 < k := by omega
    simp only [h, h2, decide_false, Bool.false_and]
theorem bad_cases {s : ByteArray} (hf : full s = true) (hl : isL s = false) : (dec s).1 = 65533 ∧ (dec s).2 = 1 ∧ 1 ≤ s.size ∧
    (need (bt s 0) = 0 ∨ (2 ≤ need (bt s 0) ∧ 1 < s.size ∧ ok1 s = false) ∨ (3 ≤ need (bt s 0) ∧ 2 < s.size ∧ ok1 s = true ∧ cont (bt s 2) = false) ∨
      (need (bt s 0) = 4 ∧ 3 < s.size ∧ ok1 s = true ∧ cont (bt s 2) = true)) := by
  unfold isL at hl
  unfold full at hf
  have hs : ¬ s.size = 0 := fun h => by rw [decide_eq_true h] at hf; cases hf
  rw [decide_eq_false hs, cond_false] at hf
  have hN := need_cases (bt s 0)
  unfold dec at hl ⊢
  simp only [decide_eq_false hs, cond_false] at hl ⊢
  by_cases c0 : need (bt s 0) = 0
  · simp only [decide_eq_true c0, cond_true]
    exact ⟨by trivial, by trivial, by omega, .inl c0⟩
  simp only [decide_eq_false c0, cond_false] at hl ⊢
  by_cases c1 : need (bt s 0) = 1
  · simp only [decide_eq_true c1, cond_true] at hl
    have h2 : bt s 0 = 65533 := by simpa using hl
    omega
  simp only [decide_eq_false c1, cond_false] at hl ⊢
  by_cases c2 : (s.size : Int) < need (bt s 0)
  · simp only [decide_eq_true c2, cond_true]
    rw [decide_eq_false (show ¬ need (bt s 0) ≤ (s.size : Int) by omega), cond_false] at hf
    refine ⟨by trivial, by trivial, by omega, ?_⟩
    cases ho : ok1 s with
    | false =>
      by_cases h1 : 1 < s.size
      · exact .inr (.inl ⟨by omega, h1, by trivial⟩)
      · have h2 : ¬ 2 < s.size := by omega
        simp [h1, h2] at hf
    | true =>
      rw [ho] at hf
      simp only [Bool.not_true, Bool.and_false, cond_false, Bool.and_eq_true, decide_eq_true_eq, Bool.not_eq_true'] at hf
      exact .inr (.inr (.inl ⟨by omega, hf.1, by trivial, hf.2⟩))
  simp only [decide_eq_false c2, cond_false] at hl ⊢
  cases ho : ok1 s with
  | false =>
    simp only [ho, Bool.not_false, cond_true]
    exact ⟨by trivial, by trivial, by omega, .inr (.inl ⟨by omega, by omega, by trivial⟩)⟩
  | true =>
    rw [ho] at hl
    simp only [Bool.not_true, cond_false] at hl ⊢
    by_cases c3 : need (bt s 0) = 2
    · simp only [decide_eq_true c3, cond_true] at hl
      simp at hl
    simp only [decide_eq_false c3, cond_false] at hl ⊢
    cases hc : cont (bt s 2) with
    | false =>
      simp only [hc, Bool.not_false, cond_true]
      exact ⟨by trivial, by trivial, by omega, .inr (.inr (.inl ⟨by omega, by omega, by trivial, by trivial⟩))⟩
    | true =>
      rw [hc] at hl
      simp only [Bool.not_true, cond_false] at hl ⊢
      by_cases c4 : need (bt s 0) = 3
      · simp only [decide_eq_true c4, cond_true] at hl
        simp at hl
      simp only [decide_eq_false c4, cond_false] at hl ⊢
      cases hd : cont (bt s 3) with
      | false =>
        simp only [hd, Bool.not_false, cond_true]
        exact ⟨by trivial, by trivial, by omega, .inr (.inr (.inr ⟨by omega, by omega, by trivial, by trivial⟩))⟩
      | true =>
        rw [hd] at hl
        simp at hl
end U
namespace Go.Proofs.YtdlbnlbajnafdaaDoor
open Go.Ev Go.RowKit
theorem v155 (s : ByteArray) : (evFn (E0.withFns F1) Tryd.f163 [.data (.int .i32), .data (.int .i64)] (toAVs [.str] (s, ())) []).val = some (rd (U.dec s)) := by
  rw [t163 s rfl]
  by_cases c0 : s = { data := #[] }
  · simp only [Tr.val, c0, decide_true, Bool.not_true, cond_false]
  · have hp : 0 < s.size := by
      rcases Nat.eq_zero_or_pos s.size with e | e
      · refine absurd (bl_inj ?_) c0
        rw [show bl ({ data := #[] } : ByteArray) = [] from rfl]
        exact List.length_eq_zero_iff.1 (by rw [bl_len]; exact e)
      · exact e
    have i0 : inB 0 s.size = true := inB_true ⟨by omega, by omega⟩
    have hs : ¬ s.size = 0 := by omega
    have b0 := bt_ge s 0
    have b1 := bt_lt s 0
    by_cases c1 : bt s 0 < 128
    · have hn : U.need (bt s 0) = 1 := by unfold U.need; rw [if_pos c1]
      have e : U.dec s = (bt s 0, 1) := by
        unfold U.dec
        rw [decide_eq_false hs, hn]
        rfl
      simp only [Tr.val, c0, c1, i0, e, decide_true, decide_false, Bool.not_false, cond_true, wrap32_id (show -2147483648 ≤ bt s 0 by omega) (by omega)]
    · simp only [Tr.val, c0, c1, i0, decide_true, decide_false, Bool.not_false, cond_true, cond_false]
theorem v140 (r : Int) : (evFn (E0.withFns F5) Tryd.f149 [.data (.int .i64)] (toAVs [.int .i32] (r, ())) []).val = some (ri (U.width r)) := by
  rw [t149 r]
  unfold U.width
  cases h1 : U.valid r <;> by_cases h2 : r < 32 <;> by_cases h3 : 127 ≤ r <;> by_cases h4 : r < 160 <;> cases h5 : U.within U.zero r <;> cases h6 : U.within U.wide r <;>
    simp only [Tr.val, h1, h2, h3, h4, h5, h6, decide_true, decide_false, cond_true, cond_false, Bool.not_true, Bool.not_false, Bool.true_and, Bool.and_true, Bool.false_and, Bool.and_false, Bool.or_true, Bool.true_or, Bool.or_false, Bool.false_or, Bool.or_self, Bool.and_self] <;> rfl
theorem wk146 : SpecOK Tryd.prog E0 146 w146 := by
  refine dspec_ok (E0 := E0) (E := E0.withFns F7) (fns := F7) tab (.cons wk147 .nil) rfl rfl hm Tryd.func146 (by kernel_rfl) [.data .bool] (fun x hx => ?_)
  obtain ⟨⟨a, b, c, z⟩, z'⟩ := x
  have e : evFn (E0.withFns F7) Tryd.f146 [.data .bool] (toAVs [attk] ((a, b, c, z), z')) [] = _ := t146 a b c
  rw [e]
  show Tr.val _ = some (rb (U.inn a 0 256 && (U.inn b 0 256 && U.inn c 0 255)))
  cases h1 : U.inn a 0 256 <;> cases h2 : U.inn b 0 256 <;> simp only [Tr.val, h1, h2, cond_true, cond_false, Bool.true_and, Bool.false_and] <;> rfl
end Go.Proofs.YtdlbnlbajnafdaaDoor
end
section
set_option linter.unusedVariables false
set_option linter.unusedSimpArgs false
set_option maxRecDepth 20000
open Go Go.Ev
namespace Go.Proofs.YtdlbnlbajnafdaaDoor
open Go.RowKit
abbrev Attr := Int × Int × Int × Unit
abbrev Cell := ByteArray × Int × Attr × Unit
abbrev Line := List Cell × Bool × Unit
abbrev G0 : List (Nat × FSpec) := [(148, w148), (149, w149), (147, w147), (146, w146)]
def live150 (key : Nat) : Lv :=
  bif Nat.beq key 2 then { ls := [0, 3] } else bif Nat.beq key 1002 then { ls := [2, 3] } else
  { ls := [] }
abbrev M150 (ls : Nat → VS → Option (Tr (Ex × VS))) : Env := (E0.withFns G0).loops live150 ls
@[reducible] def p150_0 : LP := { n := 28, sl := [.d (Kd.str), .d (.int .i64)], bl := [] }
def B150_0 (x0 : ByteArray) (x1 : Int) : Tr (p150_0.T ⊕ (Int × Int ⊕ Int)) :=
 let v1 : Int := (U.first x0).fst
 let v2 : Int := (U.first x0).snd.snd
 let v3 : Int := (U.first x0).snd.fst
 Tr.ite (!decide (x0 = { data := #[] })) (Tr.ite (decide (x0.size ≤ (1048576 : Nat))) (Tr.ite (!decide (v2 = (0 : Int))) (Tr.ret (Sum.inr (Sum.inl ((-1 : Int), x1)))) (Tr.ite (!decide (U.width v1 = (0 : Int))) (Tr.ret (Sum.inr (Sum.inl ((-1 : Int), x1)))) (Tr.ite (decide ((0 : Int) ≤ v3 ∧ v3 ≤ (↑x0.size : Int))) (Tr.ret (Sum.inl ((x0.extract v3.toNat x0.size, IntKind.i64.wrap (x1 + (1 : Int)), ()), ()))) Tr.fail))) Tr.fail) (Tr.ret (Sum.inr (Sum.inr x1)))
def X150_0 : (Int × Int ⊕ Int) → Ex × VS
  | (.inl r) => Prod.mk Ex.ret { n := 28, v := [Slot.av (AV.one (Leaf.dat (.int .i64) r.fst)), Slot.av (AV.one (Leaf.dat (.int .i64) r.snd))], h := [] }
  | (.inr r) => Prod.mk (Ex.exit ( 0)) { n := 28, v := [Slot.av (AV.one Leaf.undef), Slot.av (AV.one (Leaf.dat (.int .i64) r))], h := [] }
def b150_0 : p150_0.T → Tr (p150_0.T ⊕ (Int × Int ⊕ Int)) := fun ⟨⟨x0, ⟨x1, _⟩⟩, _⟩ => B150_0 x0 x1
theorem h150_0 (ls : Nat → VS → Option (Tr (Ex × VS))) (x : p150_0.T) : (evC (evI 2) (lc Tryd.f150 0) (Env.lend (M150 ls) 0) (unV (live150 2) (p150_0.V x))).map (decL 0 (live150 2) (live150 1002)) = (b150_0 x).map (encR p150_0.V X150_0) := by
  obtain ⟨⟨x0, ⟨x1, _⟩⟩, _⟩ := x; kernel_rfl
theorem c150_0 (x : p150_0.T) : canV 0 (live150 2) (unV (live150 2) (p150_0.V x)) = p150_0.V x := by
  obtain ⟨⟨x0, ⟨x1, _⟩⟩, _⟩ := x; kernel_rfl
theorem l150_0 {T : p150_0.T → Tr (Int × Int ⊕ Int)} {ls : Nat → VS → Option (Tr (Ex × VS))} (hls : ∀ x, (Env.lend (M150 ls) 0).ls 2 x = p150_0.ls (fun a => (T a).map X150_0) x) (hS : ∀ x r, (T x).val = some r → Rounds b150_0 x r) : LoopOK (evI 2) (Env.lend (M150 ls) 0) (lc Tryd.f150 0) :=
  loopA 2 (live150 2) (live150 1002) p150_0 b150_0 X150_0 T (by kernel_rfl) rfl rfl hls (h150_0 ls) c150_0 hS
end Go.Proofs.YtdlbnlbajnafdaaDoor
namespace U
open Go Go.Ev
def marksL : Nat → ByteArray → Int → Int × Int ⊕ Int
  | 0, _, n => .inr n
  | k + 1, s, n => if s.size = 0 then .inr n else if (first s).2.2 = 0 ∧ width (first s).1 = 0 then marksL k (s.extract (first s).2.1.toNat s.size) (n + 1) else .inl (-1, n)
def marks (s : ByteArray) : Int := match marksL s.size s 0 with
  | .inr n => n
  | .inl r => r.1
def cellR (c : ByteArray × Int × (Int × Int × Int × Unit) × Unit) : Bool :=
  if c.1.size = 0 then look c.2.2.1 && inn c.2.1 0 1 else
  if (first c.1).2.2 = 0 ∧ inn c.2.1 1 2 = true ∧ width (first c.1).1 = c.2.1 then look c.2.2.1 && inn (marks (c.1.extract (first c.1).2.1.toNat c.1.size)) 0 2 else false
theorem first_ok {s : ByteArray} (h : (first s).2.2 = 0) : 1 ≤ (first s).2.1 ∧ (first s).2.1 ≤ (s.size : Int) := by
  unfold first at h ⊢
  cases hf : full s with
  | false => rw [hf] at h; simp at h
  | true =>
    rw [hf] at h
    cases hl : isL s with
    | false => rw [hl] at h; simp at h
    | true =>
      simp only [Bool.not_true, cond_false, cond_true]
      unfold full at hf
      unfold isL at hl
      have hN := need_cases (bt s 0)
      unfold dec at hl ⊢
      by_cases c0 : s.size = 0
      · simp [c0] at hf
      by_cases c1 : need (bt s 0) = 0
      · simp [c0, c1] at hl
      by_cases c2 : need (bt s 0) = 1
      · simp only [c0, c2, decide_true, decide_false, cond_true, cond_false, show ¬ (1 : Int) = 0 by omega]
        omega
      by_cases c3 : (s.size : Int) < need (bt s 0)
      · simp [c0, c1, c2, c3] at hl
      cases ho : ok1 s with
      | false => simp [c0, c1, c2, c3, ho] at hl
      | true =>
        by_cases c4 : need (bt s 0) = 2
        · have h9 : ¬ ((s.size : Int) < 2) := by omega
          simp [c0, c4, ho, h9]
          omega
        cases h1 : cont (bt s 2) with
        | false => simp [c0, c1, c2, c3, c4, ho, h1] at hl
        | true =>
          by_cases c5 : need (bt s 0) = 3
          · have h9 : ¬ ((s.size : Int) < 3) := by omega
            simp [c0, c5, ho, h1, h9]
            omega
          cases h2 : cont (bt s 3) with
          | false => simp [c0, c1, c2, c3, c4, c5, ho, h1, h2] at hl
          | true =>
            simp only [c0, c1, c2, c3, c4, c5, ho, h1, h2, decide_true, decide_false, cond_true, cond_false, Bool.not_true]
            omega
end U
namespace Go.Proofs.YtdlbnlbajnafdaaDoor
open Go Go.Ev Go.RowKit
def T150 (x : p150_0.T) : Tr (Int × Int ⊕ Int) := .ite (decide (ByteArray.size x.1.1 ≤ 1048576 ∧ x.1.2.1 = 0)) (.spl (U.marksL (ByteArray.size x.1.1) x.1.1 0) (0, 0) 0) .fail
abbrev E150 : Env := M150 fun key x => bif Nat.beq key 2 then p150_0.ls (fun a => (T150 a).map X150_0) x else none
theorem r150 : ∀ (k : Nat) (s : ByteArray) (n : Nat), s.size ≤ k → n + k ≤ 1048576 → Rounds b150_0 ((s, (n : Int), ()), ()) (U.marksL k s n)
  | 0, s, n, h1, h2 => by
    refine .exit ?_
    have := ba_nil (s := s) (by omega)
    subst this
    rfl
  | k + 1, s, n, h1, h2 => by
    by_cases h0 : s.size = 0
    · refine .exit ?_
      have := ba_nil (s := s) (by omega)
      subst this
      rfl
    · have hne := ba_ne h0
      have hsz : s.size ≤ 1048576 := by omega
      simp only [U.marksL, h0, if_false]
      by_cases h3 : (U.first s).2.2 = 0
      · by_cases h4 : U.width (U.first s).1 = 0
        · obtain ⟨a, b⟩ := U.first_ok h3
          rw [if_pos ⟨h3, h4⟩]
          refine .step (y := ((s.extract (U.first s).2.1.toNat s.size, ((n + 1 : Nat) : Int), ()), ())) ?_ ?_
          · have hb : (0 : Int) ≤ (U.first s).2.1 ∧ (U.first s).2.1 ≤ (s.size : Int) := ⟨by omega, b⟩
            simp only [b150_0, B150_0, Tr.val, h3, h4, hne, hsz, hb, decide_true, decide_false, Bool.not_false, Bool.not_true, cond_true, cond_false, wrap64_nat (show n ≤ 1048576 by omega), and_self]
          · refine r150 k _ (n + 1) ?_ (by omega)
            rw [← bl_len, bl_ext, List.length_drop, List.length_take, bl_len]
            omega
        · rw [if_neg (fun h => h4 h.2)]
          refine .exit ?_
          simp only [b150_0, B150_0, Tr.val, h3, h4, hne, hsz, decide_true, decide_false, Bool.not_false, Bool.not_true, cond_true, cond_false]
      · rw [if_neg (fun h => h3 h.1)]
        refine .exit ?_
        simp only [b150_0, B150_0, Tr.val, h3, hne, hsz, decide_true, decide_false, Bool.not_false, Bool.not_true, cond_true, cond_false]
theorem L150 : LoopOK (evI 2) (E150.lend 0) (lc Tryd.f150 0) := by
  refine l150_0 (T := T150) (fun x => rfl) ?_
  rintro ⟨⟨s, n, z⟩, z'⟩ r h
  obtain ⟨h1, h2⟩ := pre_val h
  rw [Tr.val_spl] at h2
  cases h2
  have h1 := of_decide_eq_true h1
  have h3 : n = (0 : Int) := h1.2
  subst h3
  exact r150 _ s 0 (Nat.le_refl _) (by have := h1.1; dsimp at this; omega)
def d150 (a : ByteArray) : Tr (Int) :=
 Tr.ite (decide (a.size ≤ (1048576 : Nat) ∧ (0 : Int) = (0 : Int))) (Tr.ite (U.marksL a.size a (0 : Int)).isLeft (Tr.ret ((U.marksL a.size a (0 : Int)).getLeft?.getD ((0 : Int), (0 : Int))).fst) (Tr.ret ((U.marksL a.size a (0 : Int)).getRight?.getD (0 : Int)))) Tr.fail
def e150 (r : Int) : FRes := { rs := Slot.av (AV.one (Leaf.dat (.int .i64) r)), upd := [], new := [] }
@[reducible] def a150 : List AK := [AK.d Kd.str]
@[reducible] def b150 : List BK := []
theorem t150 (a : ByteArray) : evFn (E150) Tryd.f150 [PM.data (.int .i64)] (akAV a150 (a, ())) (bkBs b150 ()) = (d150 a).map e150 := by kernel_rfl
def s150 (C : akT a150 → Bool) (G : akT a150 → Int) : FSpec := aspec a150 b150 e150 (fun x _ => C x) (fun x _ => G x)
abbrev G1 : List (Nat × FSpec) := (150, s150 (fun x => decide (ByteArray.size x.1 ≤ 1048576)) fun x => U.marks x.1) :: G0
abbrev E92 : Env := E0.withFns G1
def d92 (a1 : ByteArray) (a2 : Int) (a39 : Int) (a32 : Int) (a33 : Int) : Tr (Bool) :=
 let v1 : Int := (U.first a1).fst
 let v2 : Int := (U.first a1).snd.snd
 let v3 : Int := (U.first a1).snd.fst
 let v4 : ByteArray := a1.extract v3.toNat a1.size
 Tr.ite (decide (a1 = { data := #[] })) (Tr.ite (U.look (a39, a32, a33, ())) (Tr.ret (U.inn a2 (0 : Int) (1 : Int))) (Tr.ret false)) (Tr.ite (decide (a1.size ≤ (1048576 : Nat))) (Tr.ite (!decide (v2 = (0 : Int))) (Tr.ret false) (Tr.ite (!U.inn a2 (1 : Int) (2 : Int)) (Tr.ret false) (Tr.ite (!decide (U.width v1 = a2)) (Tr.ret false) (Tr.ite (U.look (a39, a32, a33, ())) (Tr.ite (decide ((0 : Int) ≤ v3 ∧ v3 ≤ (↑a1.size : Int))) (Tr.ite (decide (v4.size ≤ (1048576 : Nat))) (Tr.ret (U.inn (U.marks v4) (0 : Int) (2 : Int))) Tr.fail) Tr.fail) (Tr.ret false))))) Tr.fail)
def e92 (r : Bool) : FRes := { rs := Slot.av (AV.one (Leaf.dat Kd.bool r)), upd := [], new := [] }
@[reducible] def a92 : List AK := [AK.d celk]
@[reducible] def b92 : List BK := []
theorem t92 (a1 : ByteArray) (a2 : Int) (a39 : Int) (a32 : Int) (a33 : Int) : evFn (E92) Tryd.f92 [PM.data Kd.bool] (akAV a92 ((a1, a2, (a39, a32, a33, ()), ()), ())) (bkBs b92 ()) = (d92 a1 a2 a39 a32 a33).map e92 := by kernel_rfl
def s92 (C : akT a92 → Bool) (G : akT a92 → Bool) : FSpec := aspec a92 b92 e92 (fun x _ => C x) (fun x _ => G x)
def d93 (a : List Cell) (b : Int) : Tr (Bool) :=
 let v1 : Int := (↑a.length : Int)
 let v2 : Int := b + (1 : Int)
 let v3 : Int := b - (1 : Int)
 Tr.ite (inB b a.length) (Tr.ite (decide ((rget celk a b).snd.fst = (2 : Int))) (Tr.ite (decide (IntKind.i64.wrap v2 < v1)) (Tr.ite (inB (IntKind.i64.wrap v2) a.length) (Tr.ret (decide ((rget celk a (IntKind.i64.wrap v2)).snd.fst = (0 : Int)))) Tr.fail) (Tr.ret false)) (Tr.ite (decide ((rget celk a b).snd.fst = (0 : Int))) (Tr.ite (decide ((0 : Int) < b)) (Tr.ite (inB (IntKind.i64.wrap v3) a.length) (Tr.ret (decide ((rget celk a (IntKind.i64.wrap v3)).snd.fst = (2 : Int)))) Tr.fail) (Tr.ret false)) (Tr.ret true))) Tr.fail
def e93 (r : Bool) : FRes := { rs := Slot.av (AV.one (Leaf.dat Kd.bool r)), upd := [], new := [] }
@[reducible] def a93 : List AK := [AK.d celk.sl, AK.d (.int .i64)]
@[reducible] def b93 : List BK := []
theorem t93 (a : List Cell) (b : Int) : evFn (E0) Tryd.f93 [PM.data Kd.bool] (akAV a93 (a, b, ())) (bkBs b93 ()) = (d93 a b).map e93 := by kernel_rfl
def s93 (C : akT a93 → Bool) (G : akT a93 → Bool) : FSpec := aspec a93 b93 e93 (fun x _ => C x) (fun x _ => G x)
theorem k93 {C : akT a93 → Bool} {G : akT a93 → Bool} (hd : ∀ (a : List Cell) (b : Int), C (a, b, ()) = true → (d93 a b).val = some (G (a, b, ()))) (IO : ItOK Tryd.prog (E0) := by exact itOK_none rfl) (L : ∀ c, Tryd.f93.body = some c → LsOK (evI 2) ((E0).lend 0) c := by exact fun c _ => LsOK_none rfl c) : SpecOK Tryd.prog E0 93 (s93 C G) :=
  aspec_ok (E := E0) tab .nil rfl rfl hm Tryd.func93 (by kernel_rfl) [PM.data Kd.bool] (fun X Y H => by obtain ⟨a, ⟨b, _⟩⟩ := X; exact val_of (t93 a b) (hd a b H)) IO L
end Go.Proofs.YtdlbnlbajnafdaaDoor
namespace U
open Go Go.Ev
abbrev Cl := ByteArray × Int × (Int × Int × Int × Unit) × Unit
def dC : Cl := (ByteArray.empty, 0, (0, 0, 0, ()), ())
def cw (l : List Cl) (i : Nat) : Int := (l.getD i dC).2.1
def whole (l : List Cl) (i : Nat) : Bool :=
  if cw l i = 2 then decide (i + 1 < l.length) && decide (cw l (i + 1) = 0) else
  if cw l i = 0 then decide (0 < i) && decide (cw l (i - 1) = 2) else true
end U
namespace Go.Proofs.YtdlbnlbajnafdaaDoor
open Go Go.Ev Go.RowKit
theorem cw_eq (l : List Cell) (i : Nat) : (rget celk l (i : Int)).2.1 = U.cw l i := by rw [rget_nat]; rfl
theorem wk93 : SpecOK Tryd.prog E0 93 (s93 (fun x => decide (0 ≤ (x.2.1 : Int) ∧ (x.2.1 : Int) < (List.length (α := Cell) x.1 : Int) ∧ List.length (α := Cell) x.1 ≤ 1048576)) fun x => U.whole x.1 x.2.1.toNat) := by
  refine k93 fun l i H => ?_
  obtain ⟨h0, h1, h2⟩ := of_decide_eq_true H
  dsimp only at h0 h1 h2
  obtain ⟨n, rfl⟩ := Int.eq_ofNat_of_zero_le h0
  show _ = some (U.whole l n)
  have hn : n < l.length := Int.ofNat_lt.1 h1
  have w1 : IntKind.i64.wrap ((n : Int) + 1) = ((n + 1 : Nat) : Int) := wrap64_nat (by omega)
  unfold U.whole d93
  simp only [Tr.val, inB_nat hn, cond_true, w1, cw_eq]
  by_cases a : U.cw l n = 2
  · by_cases b : n + 1 < l.length
    · have i1 : inB ((n : Int) + 1) l.length = true := by simpa using inB_nat b
      have i2 := cw_eq l (n + 1)
      rw [Int.natCast_add] at i2
      simp [a, b, i1, show ((n : Int) + 1 < (l.length : Int)) by omega]
    · simp [a, b, show ¬ ((n : Int) + 1 < (l.length : Int)) by omega]
  · by_cases b : U.cw l n = 0
    · by_cases c : 0 < n
      · have w2 : IntKind.i64.wrap ((n : Int) - 1) = ((n - 1 : Nat) : Int) := by
          rw [wrap64_id (by omega) (by omega)]
          omega
        simp [a, b, c, w2, inB_nat (show n - 1 < l.length by omega), cw_eq]
      · have : n = 0 := by omega
        subst this
        simp [a, b]
    · simp [a, b]
end Go.Proofs.YtdlbnlbajnafdaaDoor
namespace Go.Proofs.YtdlbnlbajnafdaaDoor
open Go Go.Ev Go.RowKit
abbrev w92 : FSpec := s92 (fun x => decide (ByteArray.size x.1.1 ≤ 1048576)) fun x => U.cellR x.1
abbrev w93 : FSpec := s93 (fun x => decide (0 ≤ (x.2.1 : Int) ∧ (x.2.1 : Int) < (List.length (α := Cell) x.1 : Int) ∧ List.length (α := Cell) x.1 ≤ 1048576)) fun x => U.whole x.1 x.2.1.toNat
abbrev G2 : List (Nat × FSpec) := [(92, w92), (93, w93)]
def live39 (key : Nat) : Lv :=
  bif Nat.beq key 2 then { ls := [1, 2, 8, 9, 10] } else bif Nat.beq key 1002 then { ls := [1, 2, 4] } else
  { ls := [] }
abbrev M39 (ls : Nat → VS → Option (Tr (Ex × VS))) : Env := (E0.withFns G2).loops live39 ls
@[reducible] def p39_0 : LP := { n := 31, sl := [.d (.int .i64), .c (Leaf.ptr ( 0) ( 0)), .d (celk.sl), .d (.int .i64), .d (.int .i64)], bl := [(0, .box [.d (celk.sl), .d (Kd.bool)])] }
def B39_0 (x0 : Int) (x2 : List Cell) (x3 : Int) (x4 : Int) (h0_0 : List Cell) (h0_1 : Bool) : Tr (p39_0.T ⊕ (Int × List Cell × Bool ⊕ Int × List Cell × Bool)) :=
 let v1 : Int := (↑h0_0.length : Int)
 Tr.ite (decide (x4 < x3)) (Tr.ite (inB x4 x2.length) (Tr.ite (decide (ByteArray.size (rget celk x2 x4).fst ≤ (1048576 : Nat))) (Tr.ite (!U.cellR (rget celk x2 x4)) (Tr.ret (Sum.inr (Sum.inl (x0, h0_0, h0_1)))) (Tr.ite (decide ((0 : Int) ≤ x4 ∧ x4 < v1 ∧ h0_0.length ≤ (1048576 : Nat))) (Tr.ite (!U.whole h0_0 x4.toNat) (Tr.ret (Sum.inr (Sum.inl (x0, h0_0, h0_1)))) (Tr.ret (Sum.inl ((x0, x2, x3, IntKind.i64.wrap (x4 + (1 : Int)), ()), (h0_0, h0_1, ()), ())))) Tr.fail)) Tr.fail) Tr.fail) (Tr.ret (Sum.inr (Sum.inr (x0, h0_0, h0_1))))
def X39_0 : (Int × List Cell × Bool ⊕ Int × List Cell × Bool) → Ex × VS
  | (.inl r) => Prod.mk Ex.ret { n := 31, v := [Slot.av (AV.one (Leaf.dat (.int .i64) r.fst)), Slot.av (AV.one (Leaf.ptr ( 0) ( 0))), Slot.av (AV.one (Leaf.kb false))], h := [( 0, Blk.box [Leaf.dat celk.sl r.snd.fst, Leaf.dat Kd.bool r.snd.snd])] }
  | (.inr r) => Prod.mk (Ex.exit ( 0)) { n := 31, v := [Slot.av (AV.one (Leaf.dat (.int .i64) r.fst)), Slot.av (AV.one (Leaf.ptr ( 0) ( 0))), Slot.av (AV.one Leaf.undef)], h := [( 0, Blk.box [Leaf.dat celk.sl r.snd.fst, Leaf.dat Kd.bool r.snd.snd])] }
def b39_0 : p39_0.T → Tr (p39_0.T ⊕ (Int × List Cell × Bool ⊕ Int × List Cell × Bool)) := fun ⟨⟨x0, ⟨x2, ⟨x3, ⟨x4, _⟩⟩⟩⟩, ⟨⟨h0_0, ⟨h0_1, _⟩⟩, _⟩⟩ => B39_0 x0 x2 x3 x4 h0_0 h0_1
theorem h39_0 (ls : Nat → VS → Option (Tr (Ex × VS))) (x : p39_0.T) : (evC (evI 2) (lc Tryd.f39 0) (Env.lend (M39 ls) 0) (unV (live39 2) (p39_0.V x))).map (decL 0 (live39 2) (live39 1002)) = (b39_0 x).map (encR p39_0.V X39_0) := by
  obtain ⟨⟨x0, ⟨x2, ⟨x3, ⟨x4, _⟩⟩⟩⟩, ⟨⟨h0_0, ⟨h0_1, _⟩⟩, _⟩⟩ := x; kernel_rfl
theorem c39_0 (x : p39_0.T) : canV 0 (live39 2) (unV (live39 2) (p39_0.V x)) = p39_0.V x := by
  obtain ⟨⟨x0, ⟨x2, ⟨x3, ⟨x4, _⟩⟩⟩⟩, ⟨⟨h0_0, ⟨h0_1, _⟩⟩, _⟩⟩ := x; kernel_rfl
theorem l39_0 {T : p39_0.T → Tr (Int × List Cell × Bool ⊕ Int × List Cell × Bool)} {ls : Nat → VS → Option (Tr (Ex × VS))} (hls : ∀ x, (Env.lend (M39 ls) 0).ls 2 x = p39_0.ls (fun a => (T a).map X39_0) x) (hS : ∀ x r, (T x).val = some r → Rounds b39_0 x r) : LoopOK (evI 2) (Env.lend (M39 ls) 0) (lc Tryd.f39 0) :=
  loopA 2 (live39 2) (live39 1002) p39_0 b39_0 X39_0 T (by kernel_rfl) rfl rfl hls (h39_0 ls) c39_0 hS
def live47 (key : Nat) : Lv :=
  bif Nat.beq key 4 then { ls := [2, 3, 22, 23] } else bif Nat.beq key 1004 then { ls := [4] } else
  { ls := [] }
abbrev M47 (ls : Nat → VS → Option (Tr (Ex × VS))) : Env := (E0.withFns []).loops live47 ls
@[reducible] def p47_0 : LP := { n := 38, sl := [.c (Leaf.ptr ( 0) ( 0)), .c (Leaf.ptr ( 1) ( 0)), .d (.int .i64), .d (.int .i64)], bl := [(0, .box [.d (celk.sl), .d (Kd.bool)]), (1, .box [.d (celk.sl), .d (Kd.bool)])] }
def B47_0 (x2 : Int) (x3 : Int) (h0_0 : List Cell) (h0_1 : Bool) (h1_0 : List Cell) (h1_1 : Bool) : Tr (p47_0.T ⊕ (Unit ⊕ Unit)) :=
 Tr.ite (decide (x3 < x2)) (Tr.ite (inB x3 h0_0.length) (Tr.ite (inB x3 h1_0.length) (Tr.ite (!(decide ((rget celk h0_0 x3).fst = (rget celk h1_0 x3).fst) && (decide ((rget celk h0_0 x3).snd.fst = (rget celk h1_0 x3).snd.fst) && (decide ((rget celk h0_0 x3).snd.snd.fst.fst = (rget celk h1_0 x3).snd.snd.fst.fst) && (decide ((rget celk h0_0 x3).snd.snd.fst.snd.fst = (rget celk h1_0 x3).snd.snd.fst.snd.fst) && decide ((rget celk h0_0 x3).snd.snd.fst.snd.snd.fst = (rget celk h1_0 x3).snd.snd.fst.snd.snd.fst)))))) (Tr.ret (Sum.inr (Sum.inl ()))) (Tr.ret (Sum.inl ((x2, IntKind.i64.wrap (x3 + (1 : Int)), ()), (h0_0, h0_1, ()), (h1_0, h1_1, ()), ())))) Tr.fail) Tr.fail) (Tr.ret (Sum.inr (Sum.inr ())))
def X47_0 : (Unit ⊕ Unit) → Ex × VS
  | (.inl r) => Prod.mk Ex.ret { n := 38, v := [Slot.av (AV.one (Leaf.kb false))], h := [] }
  | (.inr r) => Prod.mk (Ex.exit ( 0)) { n := 38, v := [Slot.av (AV.one Leaf.undef)], h := [] }
def b47_0 : p47_0.T → Tr (p47_0.T ⊕ (Unit ⊕ Unit)) := fun ⟨⟨x2, ⟨x3, _⟩⟩, ⟨⟨h0_0, ⟨h0_1, _⟩⟩, ⟨⟨h1_0, ⟨h1_1, _⟩⟩, _⟩⟩⟩ => B47_0 x2 x3 h0_0 h0_1 h1_0 h1_1
theorem h47_0 (ls : Nat → VS → Option (Tr (Ex × VS))) (x : p47_0.T) : (evC (evI 2) (lc Tryd.f47 0) (Env.lend (M47 ls) 0) (unV (live47 4) (p47_0.V x))).map (decL 0 (live47 4) (live47 1004)) = (b47_0 x).map (encR p47_0.V X47_0) := by
  obtain ⟨⟨x2, ⟨x3, _⟩⟩, ⟨⟨h0_0, ⟨h0_1, _⟩⟩, ⟨⟨h1_0, ⟨h1_1, _⟩⟩, _⟩⟩⟩ := x; kernel_rfl
theorem c47_0 (x : p47_0.T) : canV 0 (live47 4) (unV (live47 4) (p47_0.V x)) = p47_0.V x := by
  obtain ⟨⟨x2, ⟨x3, _⟩⟩, ⟨⟨h0_0, ⟨h0_1, _⟩⟩, ⟨⟨h1_0, ⟨h1_1, _⟩⟩, _⟩⟩⟩ := x; kernel_rfl
theorem l47_0 {T : p47_0.T → Tr (Unit ⊕ Unit)} {ls : Nat → VS → Option (Tr (Ex × VS))} (hls : ∀ x, (Env.lend (M47 ls) 0).ls 4 x = p47_0.ls (fun a => (T a).map X47_0) x) (hS : ∀ x r, (T x).val = some r → Rounds b47_0 x r) : LoopOK (evI 2) (Env.lend (M47 ls) 0) (lc Tryd.f47 0) :=
  loopA 4 (live47 4) (live47 1004) p47_0 b47_0 X47_0 T (by kernel_rfl) rfl rfl hls (h47_0 ls) c47_0 hS
def live174 (key : Nat) : Lv :=
  bif Nat.beq key 3 then { ls := [0, 3, 4] } else bif Nat.beq key 1003 then { ls := [2, 3] } else
  { ls := [] }
abbrev M174 (ls : Nat → VS → Option (Tr (Ex × VS))) : Env := (E0.withFns []).loops live174 ls
@[reducible] def p174_0 : LP := { n := 41, sl := [.d (Kd.str), .d (Kd.int IntKind.i32), .d (.int .i64)], bl := [] }
def B174_0 (x0 : ByteArray) (x1 : Int) (x2 : Int) : Tr (p174_0.T ⊕ (Int × Int ⊕ Int)) :=
 let v1 : Int := x2 + (1 : Int)
 let v2 : Int := IntKind.i32.wrap (bt x0 x2) - [(0 : Int), (0 : Int), (192 : Int), (224 : Int), (240 : Int)].getD (↑x0.size : Int).toNat (0 : Int)
 Tr.ite (decide (x2 < (↑x0.size : Int))) (Tr.ite (inB x2 x0.size) (Tr.ite (decide (x2 = (0 : Int))) (Tr.ite (inB (↑x0.size : Int) (5 : Nat)) (Tr.ite (decide ((↑x0.size : Int) = (1 : Int))) (Tr.ret (Sum.inr (Sum.inl (IntKind.i32.wrap (bt x0 x2), IntKind.i32.wrap v2)))) (Tr.ret (Sum.inl ((x0, IntKind.i32.wrap v2, IntKind.i64.wrap v1, ()), ())))) Tr.fail) (Tr.ite (decide (IntKind.i32.wrap (bt x0 x2) < (128 : Int))) (Tr.ret (Sum.inr (Sum.inl ((-1 : Int), x1)))) (Tr.ite (decide ((191 : Int) < IntKind.i32.wrap (bt x0 x2))) (Tr.ret (Sum.inr (Sum.inl ((-1 : Int), x1)))) (Tr.ret (Sum.inl ((x0, IntKind.i32.wrap (IntKind.i32.wrap (IntKind.i32.wrap ((64 : Int) * x1) + IntKind.i32.wrap (bt x0 x2)) - (128 : Int)), IntKind.i64.wrap v1, ()), ())))))) Tr.fail) (Tr.ret (Sum.inr (Sum.inr x1)))
def X174_0 : (Int × Int ⊕ Int) → Ex × VS
  | (.inl r) => Prod.mk Ex.ret { n := 41, v := [Slot.av (AV.one (Leaf.dat (Kd.int IntKind.i32) r.fst)), Slot.av (AV.one (Leaf.dat (Kd.int IntKind.i32) r.snd))], h := [] }
  | (.inr r) => Prod.mk (Ex.exit ( 0)) { n := 41, v := [Slot.av (AV.one Leaf.undef), Slot.av (AV.one (Leaf.dat (Kd.int IntKind.i32) r))], h := [] }
def b174_0 : p174_0.T → Tr (p174_0.T ⊕ (Int × Int ⊕ Int)) := fun ⟨⟨x0, ⟨x1, ⟨x2, _⟩⟩⟩, _⟩ => B174_0 x0 x1 x2
theorem h174_0 (ls : Nat → VS → Option (Tr (Ex × VS))) (x : p174_0.T) : (evC (evI 2) (lc Tryd.f174 0) (Env.lend (M174 ls) 0) (unV (live174 3) (p174_0.V x))).map (decL 0 (live174 3) (live174 1003)) = (b174_0 x).map (encR p174_0.V X174_0) := by
  obtain ⟨⟨x0, ⟨x1, ⟨x2, _⟩⟩⟩, _⟩ := x; kernel_rfl
theorem c174_0 (x : p174_0.T) : canV 0 (live174 3) (unV (live174 3) (p174_0.V x)) = p174_0.V x := by
  obtain ⟨⟨x0, ⟨x1, ⟨x2, _⟩⟩⟩, _⟩ := x; kernel_rfl
theorem l174_0 {T : p174_0.T → Tr (Int × Int ⊕ Int)} {ls : Nat → VS → Option (Tr (Ex × VS))} (hls : ∀ x, (Env.lend (M174 ls) 0).ls 3 x = p174_0.ls (fun a => (T a).map X174_0) x) (hS : ∀ x r, (T x).val = some r → Rounds b174_0 x r) : LoopOK (evI 2) (Env.lend (M174 ls) 0) (lc Tryd.f174 0) :=
  loopA 3 (live174 3) (live174 1003) p174_0 b174_0 X174_0 T (by kernel_rfl) rfl rfl hls (h174_0 ls) c174_0 hS
end Go.Proofs.YtdlbnlbajnafdaaDoor
namespace U
open Go Go.Ev
def okc (l : List Cl) : Bool := decide (l.length ≤ 1048576) && l.all fun c => decide (c.1.size ≤ 1048576)
def fitC (l : List Cl) : Bool := allN (fun i => cellR (l.getD i dC) && whole l i) l.length 0
theorem okc_len {l : List Cl} (h : okc l = true) : l.length ≤ 1048576 := by
  simp only [okc, Bool.and_eq_true, decide_eq_true_eq] at h; exact h.1
theorem okc_at {l : List Cl} (h : okc l = true) {i : Nat} (hi : i < l.length) : (l.getD i dC).1.size ≤ 1048576 := by
  simp only [okc, Bool.and_eq_true, decide_eq_true_eq, List.all_eq_true] at h
  rw [getD_el hi]
  exact h.2 _ (List.getElem_mem hi)
end U
namespace Go.Proofs.YtdlbnlbajnafdaaDoor
open Go Go.Ev Go.RowKit
def T39 (x : p39_0.T) : Tr (Int × List Cell × Bool ⊕ Int × List Cell × Bool) :=
  .ite (decide ((x.1.2.2.1 : Int) = (List.length (α := Cell) x.1.2.1 : Int) ∧ (x.1.2.2.2.1 : Int) = 0 ∧ List.length (α := Cell) x.1.2.1 ≤ List.length (α := Cell) x.2.1.1 ∧ List.length (α := Cell) x.2.1.1 ≤ 1048576) && U.okc x.1.2.1)
    (.ite (allN (fun i => U.cellR (List.getD (α := Cell) x.1.2.1 i U.dC) && U.whole x.2.1.1 i) (List.length (α := Cell) x.1.2.1) 0) (.ret (.inr (x.1.1, x.2.1.1, x.2.1.2.1))) (.ret (.inl (x.1.1, x.2.1.1, x.2.1.2.1)))) .fail
abbrev E39 : Env := M39 fun key x => bif Nat.beq key 2 then p39_0.ls (fun a => (T39 a).map X39_0) x else none
theorem rgetC (l : List Cell) (i : Nat) : rget celk l (i : Int) = l.getD i U.dC := by rw [rget_nat]; rfl
theorem L39 : LoopOK (evI 2) (E39.lend 0) (lc Tryd.f39 0) := by
  refine l39_0 (T := T39) (fun x => rfl) ?_
  rintro ⟨⟨c, l, n, i, z⟩, ⟨m, s, z1⟩, z2⟩ r h
  obtain ⟨h1, h2⟩ := pre_val h
  rw [Bool.and_eq_true] at h1
  obtain ⟨h1, hok⟩ := h1
  obtain ⟨e1, e2, e3, e4⟩ := of_decide_eq_true h1
  dsimp only at e1 e2 e3 e4 hok h2
  subst e1
  subst e2
  have := Rounds.all (B := b39_0) (N := l.length) (fun i => ((c, l, (l.length : Int), (i : Int), ()), (m, s, ()), ())) (fun i => U.cellR (l.getD i U.dC) && U.whole m i) (.inl (c, m, s)) (.inr (c, m, s)) (fun i hi => ?_) ?_
  · cases ha : allN (fun i => U.cellR (l.getD i U.dC) && U.whole m i) l.length 0 <;> simp only [ha, Tr.val, cond_true, cond_false] at h2 this <;> cases h2 <;> exact this
  · have h3 := U.okc_at hok hi
    simp only [b39_0, B39_0, Tr.val, inB_nat hi, rgetC, h3, Int.toNat_natCast, show ((i : Int) < (l.length : Int)) by omega, show ((0 : Int) ≤ (i : Int) ∧ (i : Int) < (m.length : Int) ∧ m.length ≤ 1048576) by omega, decide_true, cond_true, wrap64_nat (show i ≤ 1048576 by omega)]
    cases U.cellR (l.getD i U.dC) <;> cases U.whole m i <;> rfl
  · simp only [b39_0, B39_0, Tr.val, show ¬ ((l.length : Int) < (l.length : Int)) by omega, decide_false, cond_false]
def d39 (a1 : List Cell) (a2 : Bool) (b : Int) : Tr (Bool) :=
 let v1 : Int := (↑a1.length : Int)
 let v2 : Int := (↑a1.length : Int)
 Tr.ite (decide (v2 = v1 ∧ (0 : Int) = (0 : Int) ∧ a1.length ≤ a1.length ∧ a1.length ≤ (1048576 : Nat)) && U.okc a1) (Tr.ite (allN (fun (i : Nat) => U.cellR (a1.getD i U.dC) && U.whole a1 i) a1.length (0 : Nat)) (Tr.ret (decide (v2 = b))) (Tr.ret false)) Tr.fail
def e39 (r : Bool) : FRes := { rs := Slot.av (AV.one (Leaf.dat Kd.bool r)), upd := [], new := [] }
@[reducible] def a39 : List AK := [AK.d link, AK.d (.int .i64)]
@[reducible] def b39 : List BK := []
theorem t39 (a1 : List Cell) (a2 : Bool) (b : Int) : evFn (E39) Tryd.f39 [PM.data Kd.bool] (akAV a39 ((a1, a2, ()), b, ())) (bkBs b39 ()) = (d39 a1 a2 b).map e39 := by kernel_rfl
def s39 (C : akT a39 → Bool) (G : akT a39 → Bool) : FSpec := aspec a39 b39 e39 (fun x _ => C x) (fun x _ => G x)
abbrev w39 : FSpec := s39 (fun x => U.okc x.1.1) fun x => U.fitC x.1.1 && decide ((List.length (α := Cell) x.1.1 : Int) = (x.2.1 : Int))
end Go.Proofs.YtdlbnlbajnafdaaDoor
end
section
set_option linter.unusedVariables false
set_option linter.unusedSimpArgs false
set_option maxRecDepth 20000
open Go Go.Ev
namespace U
abbrev Ln := List Cl × Bool × Unit
def dL : Ln := ([], false, ())
def okl (l : List Ln) : Bool := decide (l.length ≤ 1048576) && l.all fun x => okc x.1
theorem okl_len {l : List Ln} (h : okl l = true) : l.length ≤ 1048576 := by
  simp only [okl, Bool.and_eq_true, decide_eq_true_eq] at h; exact h.1
theorem okl_at {l : List Ln} (h : okl l = true) {i : Nat} (hi : i < l.length) : okc (l.getD i dL).1 = true := by
  simp only [okl, Bool.and_eq_true, decide_eq_true_eq, List.all_eq_true] at h
  rw [getD_el hi]
  exact h.2 _ (List.getElem_mem hi)
end U
namespace Go.Proofs.YtdlbnlbajnafdaaDoor
open Go.RowKit
theorem rgetL (l : List Line) (i : Nat) : rget link l (i : Int) = l.getD i U.dL := by rw [rget_nat]; rfl
def optI' : Option Nat → Int
  | some j => (j : Int)
  | none => -1
end Go.Proofs.YtdlbnlbajnafdaaDoor
namespace U
def cutC (c : Cl) : Cl := (c.1.extract 0 (min c.1.size 20), c.2)
def cutL (l : List Cl) : List Cl := (l.take 82).map cutC
end U
end
section
set_option linter.unusedVariables false
set_option linter.unusedSimpArgs false
set_option maxRecDepth 20000
open Go Go.Ev
namespace U
def eqC (a b : Cl) : Bool := decide (a.1 = b.1) && (decide (a.2.1 = b.2.1) && (decide (a.2.2.1.1 = b.2.2.1.1) && (decide (a.2.2.1.2.1 = b.2.2.1.2.1) && decide (a.2.2.1.2.2.1 = b.2.2.1.2.2.1))))
theorem eqC_iff {a b : Cl} : eqC a b = true ↔ a = b := by
  obtain ⟨a1, a2, ⟨a3, a4, a5, u1⟩, u2⟩ := a
  obtain ⟨b1, b2, ⟨b3, b4, b5, u3⟩, u4⟩ := b
  simp only [eqC, Bool.and_eq_true, decide_eq_true_eq, Prod.mk.injEq]
  constructor
  · rintro ⟨h1, h2, h3, h4, h5⟩; exact ⟨h1, h2, ⟨h3, h4, h5, trivial⟩, trivial⟩
  · rintro ⟨h1, h2, ⟨h3, h4, h5, _⟩, _⟩; exact ⟨h1, h2, h3, h4, h5⟩
def eqCs (l m : List Cl) : Bool := decide (l.length = m.length) && allN (fun i => eqC (l.getD i dC) (m.getD i dC)) l.length 0
theorem eqCs_iff {l m : List Cl} : eqCs l m = true ↔ l = m := by
  simp only [eqCs, Bool.and_eq_true, decide_eq_true_eq, all0]
  constructor
  · rintro ⟨e3, h⟩
    refine List.ext_getElem e3 fun j h1 h2 => ?_
    have := eqC_iff.1 (h j h1)
    rwa [getD_el h1, getD_el h2] at this
  · rintro rfl
    exact ⟨rfl, fun j _ => eqC_iff.2 rfl⟩
def eqL (a b : Ln) : Bool := eqCs a.1 b.1 && (a.2.1 == b.2.1)
theorem eqL_iff {a b : Ln} : eqL a b = true ↔ a = b := by
  obtain ⟨a1, a2, u⟩ := a
  obtain ⟨b1, b2, v⟩ := b
  simp [eqL, eqCs_iff]
end U
namespace Go.Proofs.YtdlbnlbajnafdaaDoor
def T47 (x : p47_0.T) : Tr (Unit ⊕ Unit) :=
  .ite (decide ((x.1.1 : Int) = (List.length (α := Cell) x.2.1.1 : Int) ∧ (x.1.2.1 : Int) = 0 ∧ List.length (α := Cell) x.2.1.1 = List.length (α := Cell) x.2.2.1.1 ∧ List.length (α := Cell) x.2.1.1 ≤ 1048576))
    (.ite (U.eqCs x.2.1.1 x.2.2.1.1) (.ret (.inr ())) (.ret (.inl ()))) .fail
abbrev E47 : Env := M47 fun key x => bif Nat.beq key 4 then p47_0.ls (fun a => (T47 a).map X47_0) x else none
theorem L47 : LoopOK (evI 2) (E47.lend 0) (lc Tryd.f47 0) := by
  refine l47_0 (T := T47) (fun x => rfl) ?_
  rintro ⟨⟨n, i, z⟩, ⟨l, s, z1⟩, ⟨m, t, z2⟩, z3⟩ r h
  obtain ⟨g1, g2⟩ := pre_val h
  obtain ⟨e1, e2, e3, e4⟩ := of_decide_eq_true g1
  dsimp only at e1 e2 e3 e4 g2
  subst e1; subst e2
  have := Rounds.all (B := b47_0) (N := List.length (α := Cell) l) (fun i => (((List.length (α := Cell) l : Int), (i : Int), ()), (l, s, ()), (m, t, ()), ())) (fun i => U.eqC (List.getD (α := Cell) l i U.dC) (List.getD (α := Cell) m i U.dC)) (.inl ()) (.inr ()) (fun i hi => ?_) ?_
  · have e : allN (fun i => U.eqC (List.getD (α := Cell) l i U.dC) (List.getD (α := Cell) m i U.dC)) (List.length (α := Cell) l) 0 = U.eqCs l m := by
      unfold U.eqCs
      rw [decide_eq_true e3, Bool.true_and]
    rw [e] at this
    cases hd : U.eqCs l m <;> simp only [hd, Tr.val, cond_true, cond_false] at g2 this <;> cases g2 <;> exact this
  · have i2 : inB (i : Int) (List.length (α := Cell) m) = true := inB_nat (by omega)
    simp only [b47_0, B47_0, Tr.val, inB_nat hi, i2, rgetC, show ((i : Int) < (List.length (α := Cell) l : Int)) by omega, decide_true, cond_true, wrap64_nat (show i ≤ 1048576 by omega)]
    show (bif !(U.eqC (List.getD (α := Cell) l i U.dC) (List.getD (α := Cell) m i U.dC)) then _ else _) = _
    cases U.eqC (List.getD (α := Cell) l i U.dC) (List.getD (α := Cell) m i U.dC) <;> rfl
  · simp only [b47_0, B47_0, Tr.val, show ¬ ((List.length (α := Cell) l : Int) < (List.length (α := Cell) l : Int)) by omega, decide_false, cond_false]
def d47 (a1 : List Cell) (a2 : Bool) (b1 : List Cell) (b2 : Bool) : Tr (Bool) :=
 let v1 : Int := ((↑a1.length : Int))
 let v2 : Int := ((↑b1.length : Int))
 let v3 : Int := ((↑a1.length : Int))
 Tr.ite (!decide (v3 = v2)) (Tr.ret false) (Tr.ite (!a2 == b2) (Tr.ret false) (Tr.ite (decide (v3 = v1 ∧ (0 : Int) = (0 : Int) ∧ a1.length = b1.length ∧ a1.length ≤ (1048576 : Nat))) (Tr.ite (U.eqCs a1 b1) (Tr.ret true) (Tr.ret false)) Tr.fail))
def e47 (r : Bool) : FRes := { rs := Slot.av (AV.one (Leaf.dat Kd.bool r)), upd := [], new := [] }
@[reducible] def a47 : List AK := [AK.d link, AK.d link]
@[reducible] def b47 : List BK := []
theorem t47 (a1 : List Cell) (a2 : Bool) (b1 : List Cell) (b2 : Bool) : evFn (E47) Tryd.f47 [PM.data Kd.bool] (akAV a47 ((a1, a2, ()), (b1, b2, ()), ())) (bkBs b47 ()) = (d47 a1 a2 b1 b2).map e47 := by kernel_rfl
def s47 (C : akT a47 → Bool) (G : akT a47 → Bool) : FSpec := aspec a47 b47 e47 (fun x _ => C x) (fun x _ => G x)
theorem k47 {C : akT a47 → Bool} {G : akT a47 → Bool} (hd : ∀ (a1 : List Cell) (a2 : Bool) (b1 : List Cell) (b2 : Bool), C ((a1, a2, ()), (b1, b2, ()), ()) = true → (d47 a1 a2 b1 b2).val = some (G ((a1, a2, ()), (b1, b2, ()), ()))) (IO : ItOK Tryd.prog (E47) := by exact itOK_none rfl) (L : ∀ c, Tryd.f47.body = some c → LsOK (evI 2) ((E47).lend 0) c := by exact fun c _ => LsOK_none rfl c) : SpecOK Tryd.prog E0 47 (s47 C G) :=
  aspec_ok (ak := a47) (bl := b47) (e := e47) (c := fun x _ => C x) (g := fun x _ => G x) (E0 := E0) (E := E47) tab .nil rfl rfl hm Tryd.func47 (by kernel_rfl) [PM.data Kd.bool] (fun X Y H => by obtain ⟨⟨a1, ⟨a2, _⟩⟩, ⟨⟨b1, ⟨b2, _⟩⟩, _⟩⟩ := X; exact val_of (t47 a1 a2 b1 b2) (hd a1 a2 b1 b2 H)) IO L
abbrev w47 : FSpec := s47 (fun x => decide (List.length (α := Cell) x.1.1 ≤ 1048576)) fun x => U.eqL x.1 x.2.1
theorem wk47 : SpecOK Tryd.prog E0 47 w47 := by
  refine k47 (fun l s m t H => ?_) (L := ls_ok (lcs := [lc Tryd.f47 0]) (rgs := []) (by kernel_rfl) (by kernel_rfl) L47 trivial)
  have H : l.length ≤ 1048576 := of_decide_eq_true H
  show _ = some (U.eqL (l, s, ()) (m, t, ()))
  unfold U.eqL
  by_cases h1 : l.length = m.length
  · cases h2 : (s == t) with
    | true =>
      have h3 : (l.length : Int) = (m.length : Int) := by omega
      simp only [d47, Tr.val, h1 ▸ H, h1, h2, decide_true, Bool.not_true, Bool.and_true, cond_true, cond_false, and_self]
      cases U.eqCs l m <;> rfl
    | false => simp [d47, Tr.val, h1, h2]
  · have h3 : ¬ (l.length : Int) = (m.length : Int) := by omega
    simp [d47, Tr.val, h3, U.eqCs, h1]
def d183 (a : Int) (b : Int) (c : Int) : Tr (Bool) :=
 Tr.ite (decide (b ≤ a)) (Tr.ret (decide (a ≤ c))) (Tr.ret false)
def e183 (r : Bool) : FRes := { rs := Slot.av (AV.one (Leaf.dat Kd.bool r)), upd := [], new := [] }
@[reducible] def a183 : List AK := [AK.d (.int .i64), AK.d (.int .i64), AK.d (.int .i64)]
@[reducible] def b183 : List BK := []
theorem t183 (a : Int) (b : Int) (c : Int) : evFn (E0) Tryd.f183 [PM.data Kd.bool] (akAV a183 (a, b, c, ())) (bkBs b183 ()) = (d183 a b c).map e183 := by kernel_rfl
def s183' (G : akT a183 → Bool) : FSpec := aspec0 a183 b183 e183 (fun x _ => G x)
theorem k183' {G : akT a183 → Bool} (hd : ∀ (a : Int) (b : Int) (c : Int), (d183 a b c).val = some (G (a, b, c, ()))) (IO : ItOK Tryd.prog (E0) := by exact itOK_none rfl) (L : ∀ c, Tryd.f183.body = some c → LsOK (evI 2) ((E0).lend 0) c := by exact fun c _ => LsOK_none rfl c) : SpecOK Tryd.prog E0 183 (s183' G) :=
  aspec0_ok (ak := a183) (bl := b183) (e := e183) (g := fun x _ => G x) (E0 := E0) (E := E0) tab .nil rfl rfl hm Tryd.func183 (by kernel_rfl) [PM.data Kd.bool] (fun X Y => by obtain ⟨a, ⟨b, ⟨c, _⟩⟩⟩ := X; exact val_of (t183 a b c) (hd a b c)) IO L
abbrev w183 : FSpec := s183' fun x => U.inn x.1 x.2.1 x.2.2.1
theorem wk183 : SpecOK Tryd.prog E0 183 w183 := by
  refine k183' fun a b c => ?_
  show _ = some (U.inn a b c)
  unfold U.inn
  by_cases h : b ≤ a <;> simp [d183, Tr.val, h]
def d157 (a1 : Int) (a2 : Int) (a3 : Int) : Tr (Bool) :=
 Tr.ite (U.inn a1 (0 : Int) (256 : Int)) (Tr.ite (U.inn a2 (0 : Int) (256 : Int)) (Tr.ret (U.inn a3 (0 : Int) (255 : Int))) (Tr.ret false)) (Tr.ret false)
def e157 (r : Bool) : FRes := { rs := Slot.av (AV.one (Leaf.dat Kd.bool r)), upd := [], new := [] }
@[reducible] def a157 : List AK := [AK.d attk]
@[reducible] def b157 : List BK := []
theorem t157 (a1 : Int) (a2 : Int) (a3 : Int) : evFn (E0.withFns [((183 : Nat), w183)]) Tryd.f157 [PM.data Kd.bool] (akAV a157 ((a1, a2, a3, ()), ())) (bkBs b157 ()) = (d157 a1 a2 a3).map e157 := by kernel_rfl
def s157' (G : akT a157 → Bool) : FSpec := aspec0 a157 b157 e157 (fun x _ => G x)
theorem k157' {G : akT a157 → Bool} (hd : ∀ (a1 : Int) (a2 : Int) (a3 : Int), (d157 a1 a2 a3).val = some (G ((a1, a2, a3, ()), ()))) (IO : ItOK Tryd.prog (E0.withFns [((183 : Nat), w183)]) := by exact itOK_none rfl) (L : ∀ c, Tryd.f157.body = some c → LsOK (evI 2) ((E0.withFns [((183 : Nat), w183)]).lend 0) c := by exact fun c _ => LsOK_none rfl c) : SpecOK Tryd.prog E0 157 (s157' G) :=
  aspec0_ok (ak := a157) (bl := b157) (e := e157) (g := fun x _ => G x) (E0 := E0) (E := E0.withFns [((183 : Nat), w183)]) tab (.cons wk183 .nil) rfl rfl hm Tryd.func157 (by kernel_rfl) [PM.data Kd.bool] (fun X Y => by obtain ⟨⟨a1, ⟨a2, ⟨a3, _⟩⟩⟩, _⟩ := X; exact val_of (t157 a1 a2 a3) (hd a1 a2 a3)) IO L
abbrev w157 : FSpec := s157' fun x => U.look x.1
theorem wk157 : SpecOK Tryd.prog E0 157 w157 := by
  refine k157' fun a b c => ?_
  show _ = some (U.look (a, b, c, ()))
  unfold U.look
  cases h1 : U.inn a 0 256 <;> cases h2 : U.inn b 0 256 <;> simp [d157, Tr.val, h1, h2]
def d185 (a : Int) (b : Int) (c : Int) : Tr (Bool) :=
 Tr.ite (decide (b ≤ a)) (Tr.ret (decide (a ≤ c))) (Tr.ret false)
def e185 (r : Bool) : FRes := { rs := Slot.av (AV.one (Leaf.dat Kd.bool r)), upd := [], new := [] }
@[reducible] def a185 : List AK := [AK.d (Kd.int IntKind.i32), AK.d (Kd.int IntKind.i32), AK.d (Kd.int IntKind.i32)]
@[reducible] def b185 : List BK := []
theorem t185 (a : Int) (b : Int) (c : Int) : evFn (E0) Tryd.f185 [PM.data Kd.bool] (akAV a185 (a, b, c, ())) (bkBs b185 ()) = (d185 a b c).map e185 := by kernel_rfl
def s185' (G : akT a185 → Bool) : FSpec := aspec0 a185 b185 e185 (fun x _ => G x)
theorem k185' {G : akT a185 → Bool} (hd : ∀ (a : Int) (b : Int) (c : Int), (d185 a b c).val = some (G (a, b, c, ()))) (IO : ItOK Tryd.prog (E0) := by exact itOK_none rfl) (L : ∀ c, Tryd.f185.body = some c → LsOK (evI 2) ((E0).lend 0) c := by exact fun c _ => LsOK_none rfl c) : SpecOK Tryd.prog E0 185 (s185' G) :=
  aspec0_ok (ak := a185) (bl := b185) (e := e185) (g := fun x _ => G x) (E0 := E0) (E := E0) tab .nil rfl rfl hm Tryd.func185 (by kernel_rfl) [PM.data Kd.bool] (fun X Y => by obtain ⟨a, ⟨b, ⟨c, _⟩⟩⟩ := X; exact val_of (t185 a b c) (hd a b c)) IO L
abbrev w185 : FSpec := s185' fun x => U.inn x.1 x.2.1 x.2.2.1
theorem wk185 : SpecOK Tryd.prog E0 185 w185 := by
  refine k185' fun a b c => ?_
  show _ = some (U.inn a b c)
  unfold U.inn
  by_cases h : b ≤ a <;> simp [d185, Tr.val, h]
def d184 (a : Int) : Tr (Bool) :=
 Tr.ite (decide ((0 : Int) ≤ a)) (Tr.ite (decide (a ≤ (1114111 : Int))) (Tr.ite (decide (a < (55296 : Int))) (Tr.ret true) (Tr.ret (decide ((57343 : Int) < a)))) (Tr.ret false)) (Tr.ret false)
def e184 (r : Bool) : FRes := { rs := Slot.av (AV.one (Leaf.dat Kd.bool r)), upd := [], new := [] }
@[reducible] def a184 : List AK := [AK.d (Kd.int IntKind.i32)]
@[reducible] def b184 : List BK := []
theorem t184 (a : Int) : evFn (E0) Tryd.f184 [PM.data Kd.bool] (akAV a184 (a, ())) (bkBs b184 ()) = (d184 a).map e184 := by kernel_rfl
def s184' (G : akT a184 → Bool) : FSpec := aspec0 a184 b184 e184 (fun x _ => G x)
theorem k184' {G : akT a184 → Bool} (hd : ∀ (a : Int), (d184 a).val = some (G (a, ()))) (IO : ItOK Tryd.prog (E0) := by exact itOK_none rfl) (L : ∀ c, Tryd.f184.body = some c → LsOK (evI 2) ((E0).lend 0) c := by exact fun c _ => LsOK_none rfl c) : SpecOK Tryd.prog E0 184 (s184' G) :=
  aspec0_ok (ak := a184) (bl := b184) (e := e184) (g := fun x _ => G x) (E0 := E0) (E := E0) tab .nil rfl rfl hm Tryd.func184 (by kernel_rfl) [PM.data Kd.bool] (fun X Y => by obtain ⟨a, _⟩ := X; exact val_of (t184 a) (hd a)) IO L
abbrev w184 : FSpec := s184' fun x => U.valid x.1
theorem wk184 : SpecOK Tryd.prog E0 184 w184 := by
  refine k184' fun a => ?_
  show _ = some (U.valid a)
  unfold U.valid
  by_cases h : 0 ≤ a <;> by_cases h2 : a ≤ 1114111 <;> by_cases h3 : a < 55296 <;> by_cases h4 : 57343 < a <;> simp [d184, Tr.val, h, h2, h3, h4] <;> omega
def d158 (a : Int) : Tr (Int) :=
 Tr.ite (!U.valid a) (Tr.ret (-1 : Int)) (Tr.ite (decide (a < (32 : Int))) (Tr.ret (-1 : Int)) (Tr.ite (U.inn a (127 : Int) (159 : Int)) (Tr.ret (-1 : Int)) (Tr.ite (U.inn a (768 : Int) (879 : Int)) (Tr.ret (0 : Int)) (Tr.ite (U.inn a (8203 : Int) (8205 : Int)) (Tr.ret (0 : Int)) (Tr.ite (U.inn a (65024 : Int) (65039 : Int)) (Tr.ret (0 : Int)) (Tr.ite (U.inn a (4352 : Int) (4447 : Int)) (Tr.ret (2 : Int)) (Tr.ite (U.inn a (12353 : Int) (19903 : Int)) (Tr.ret (2 : Int)) (Tr.ite (U.inn a (19968 : Int) (40959 : Int)) (Tr.ret (2 : Int)) (Tr.ite (U.inn a (44032 : Int) (55203 : Int)) (Tr.ret (2 : Int)) (Tr.ite (U.inn a (63744 : Int) (64255 : Int)) (Tr.ret (2 : Int)) (Tr.ite (U.inn a (65281 : Int) (65376 : Int)) (Tr.ret (2 : Int)) (Tr.ite (U.inn a (127744 : Int) (129791 : Int)) (Tr.ret (2 : Int)) (Tr.ite (U.inn a (131072 : Int) (262141 : Int)) (Tr.ret (2 : Int)) (Tr.ret (1 : Int)))))))))))))))
def e158 (r : Int) : FRes := { rs := Slot.av (AV.one (Leaf.dat (.int .i64) r)), upd := [], new := [] }
@[reducible] def a158 : List AK := [AK.d (Kd.int IntKind.i32)]
@[reducible] def b158 : List BK := []
theorem t158 (a : Int) : evFn (E0.withFns [((184 : Nat), w184), ((185 : Nat), w185)]) Tryd.f158 [PM.data (.int .i64)] (akAV a158 (a, ())) (bkBs b158 ()) = (d158 a).map e158 := by kernel_rfl
def s158' (G : akT a158 → Int) : FSpec := aspec0 a158 b158 e158 (fun x _ => G x)
theorem k158' {G : akT a158 → Int} (hd : ∀ (a : Int), (d158 a).val = some (G (a, ()))) (IO : ItOK Tryd.prog (E0.withFns [((184 : Nat), w184), ((185 : Nat), w185)]) := by exact itOK_none rfl) (L : ∀ c, Tryd.f158.body = some c → LsOK (evI 2) ((E0.withFns [((184 : Nat), w184), ((185 : Nat), w185)]).lend 0) c := by exact fun c _ => LsOK_none rfl c) : SpecOK Tryd.prog E0 158 (s158' G) :=
  aspec0_ok (ak := a158) (bl := b158) (e := e158) (g := fun x _ => G x) (E0 := E0) (E := E0.withFns [((184 : Nat), w184), ((185 : Nat), w185)]) tab (.cons wk184 (.cons wk185 .nil)) rfl rfl hm Tryd.func158 (by kernel_rfl) [PM.data (.int .i64)] (fun X Y => by obtain ⟨a, _⟩ := X; exact val_of (t158 a) (hd a)) IO L
abbrev w158 : FSpec := s158' fun x => U.width x.1
theorem wk158 : SpecOK Tryd.prog E0 158 w158 := by
  refine k158' fun a => ?_
  show _ = some (U.width a)
  have A : ∀ (p q : Bool) (x y : Int), (bif p then x else bif q then x else y) = bif p || q then x else y := by intro p q x y; cases p <;> cases q <;> rfl
  have B : ∀ (p : Bool) (x y : Int), (bif p then some x else some y) = some (bif p then x else y) := by intro p x y; cases p <;> rfl
  have C : decide (a < 160) = decide (a ≤ 159) := by rw [decide_eq_decide]; omega
  simp only [d158, Tr.val, U.width, U.within, U.zero, U.wide, List.any_cons, List.any_nil, U.span, U.inn, C, A, B, Bool.or_assoc, Bool.or_false]
def d172 (a : Int) : Tr (Int) :=
 Tr.ite (decide (a < (128 : Int))) (Tr.ret (1 : Int)) (Tr.ite (decide ((194 : Int) ≤ a)) (Tr.ite (decide (a < (224 : Int))) (Tr.ret (2 : Int)) (Tr.ite (decide ((224 : Int) ≤ a)) (Tr.ite (decide (a < (240 : Int))) (Tr.ret (3 : Int)) (Tr.ite (decide ((240 : Int) ≤ a)) (Tr.ite (decide (a < (245 : Int))) (Tr.ret (4 : Int)) (Tr.ret (0 : Int))) (Tr.ret (0 : Int)))) (Tr.ite (decide ((240 : Int) ≤ a)) (Tr.ite (decide (a < (245 : Int))) (Tr.ret (4 : Int)) (Tr.ret (0 : Int))) (Tr.ret (0 : Int))))) (Tr.ite (decide ((224 : Int) ≤ a)) (Tr.ite (decide (a < (240 : Int))) (Tr.ret (3 : Int)) (Tr.ite (decide ((240 : Int) ≤ a)) (Tr.ite (decide (a < (245 : Int))) (Tr.ret (4 : Int)) (Tr.ret (0 : Int))) (Tr.ret (0 : Int)))) (Tr.ite (decide ((240 : Int) ≤ a)) (Tr.ite (decide (a < (245 : Int))) (Tr.ret (4 : Int)) (Tr.ret (0 : Int))) (Tr.ret (0 : Int)))))
def e172 (r : Int) : FRes := { rs := Slot.av (AV.one (Leaf.dat (.int .i64) r)), upd := [], new := [] }
@[reducible] def a172 : List AK := [AK.d (Kd.int IntKind.u8)]
@[reducible] def b172 : List BK := []
theorem t172 (a : Int) : evFn (E0) Tryd.f172 [PM.data (.int .i64)] (akAV a172 (a, ())) (bkBs b172 ()) = (d172 a).map e172 := by kernel_rfl
def s172' (G : akT a172 → Int) : FSpec := aspec0 a172 b172 e172 (fun x _ => G x)
theorem k172' {G : akT a172 → Int} (hd : ∀ (a : Int), (d172 a).val = some (G (a, ()))) (IO : ItOK Tryd.prog (E0) := by exact itOK_none rfl) (L : ∀ c, Tryd.f172.body = some c → LsOK (evI 2) ((E0).lend 0) c := by exact fun c _ => LsOK_none rfl c) : SpecOK Tryd.prog E0 172 (s172' G) :=
  aspec0_ok (ak := a172) (bl := b172) (e := e172) (g := fun x _ => G x) (E0 := E0) (E := E0) tab .nil rfl rfl hm Tryd.func172 (by kernel_rfl) [PM.data (.int .i64)] (fun X Y => by obtain ⟨a, _⟩ := X; exact val_of (t172 a) (hd a)) IO L
abbrev w172 : FSpec := s172' fun x => U.need x.1
theorem wk172 : SpecOK Tryd.prog E0 172 w172 := by
  refine k172' fun a => ?_
  show _ = some (U.need a)
  simp only [d172, Tr.val, U.need]
  grind
end Go.Proofs.YtdlbnlbajnafdaaDoor
namespace U
def head (n : Nat) : Int := [(0 : Int), 0, 192, 224, 240].getD n 0
def vl (s : ByteArray) : Nat → Nat → Int → Int × Int ⊕ Int
  | 0, _, r => .inr r
  | k + 1, i, r => if cont (bt s i) = true then vl s k (i + 1) (64 * r + bt s i - 128) else .inl (-1, r)
def vL (s : ByteArray) : Int × Int ⊕ Int := if s.size = 1 then .inl (bt s 0, bt s 0 - head s.size) else vl s (s.size - 1) 1 (bt s 0 - head s.size)
def rv (s : ByteArray) : Int := match vL s with
  | .inr r => r
  | .inl p => p.1
end U
namespace Go.Proofs.YtdlbnlbajnafdaaDoor
def T174 (x : p174_0.T) : Tr (Int × Int ⊕ Int) :=
  .ite (decide (1 ≤ ByteArray.size x.1.1 ∧ ByteArray.size x.1.1 ≤ 4 ∧ (x.1.2.1 : Int) = 0 ∧ (x.1.2.2.1 : Int) = 0)) (.spl (U.vL x.1.1) (0, 0) 0) .fail
theorem r174 (s : ByteArray) (hs : s.size ≤ 4) : ∀ (k i : Nat) (r : Int), 1 ≤ i → i + k = s.size → (i = 1 → -300 ≤ r ∧ r ≤ 300) → (i = 2 → -20000 ≤ r ∧ r ≤ 20000) → (i = 3 → -1300000 ≤ r ∧ r ≤ 1300000) → Rounds b174_0 ((s, r, (i : Int), ()), ()) (U.vl s k i r)
  | 0, i, r, h1, h2, _, _, _ => by
    refine .exit ?_
    simp only [b174_0, B174_0, Tr.val, show ¬ ((i : Int) < (s.size : Int)) by omega, decide_false, cond_false]
    rfl
  | k + 1, i, r, h1, h2, g1, g2, g3 => by
    have b0 := bt_ge s i
    have b1 := bt_lt s i
    have hi : i = 1 ∨ i = 2 ∨ i = 3 := by omega
    have hr : -1300000 ≤ r ∧ r ≤ 1300000 := by
      rcases hi with h | h | h
      · have := g1 h; omega
      · have := g2 h; omega
      · exact g3 h
    have e0 : IntKind.i32.wrap (bt s i) = bt s i := w32 (by omega) (by omega)
    have e1 : IntKind.i32.wrap (64 * r) = 64 * r := w32 (by omega) (by omega)
    have e2 : IntKind.i32.wrap (64 * r + bt s i) = 64 * r + bt s i := w32 (by omega) (by omega)
    have e3 : IntKind.i32.wrap (64 * r + bt s i - 128) = 64 * r + bt s i - 128 := w32 (by omega) (by omega)
    simp only [U.vl]
    by_cases c1 : bt s i < 128
    · have : U.cont (bt s i) = false := by unfold U.cont; rw [decide_eq_false (show ¬ 128 ≤ bt s i by omega)]; rfl
      rw [this, if_neg (show ¬ false = true by simp)]
      refine .exit ?_
      simp only [b174_0, B174_0, Tr.val, e0, c1, inB_nat (show i < s.size by omega), show ((i : Int) < (s.size : Int)) by omega, show ¬ ((i : Int) = 0) by omega, decide_true, decide_false, cond_true, cond_false]
    · by_cases c2 : 191 < bt s i
      · have : U.cont (bt s i) = false := by unfold U.cont; rw [decide_eq_false (show ¬ bt s i ≤ 191 by omega), Bool.and_false]
        rw [this, if_neg (show ¬ false = true by simp)]
        refine .exit ?_
        simp only [b174_0, B174_0, Tr.val, e0, c1, c2, inB_nat (show i < s.size by omega), show ((i : Int) < (s.size : Int)) by omega, show ¬ ((i : Int) = 0) by omega, decide_true, decide_false, cond_true, cond_false]
      · have : U.cont (bt s i) = true := by unfold U.cont; rw [decide_eq_true (show 128 ≤ bt s i by omega), decide_eq_true (show bt s i ≤ 191 by omega)]; rfl
        rw [this, if_pos rfl]
        refine .step (y := ((s, 64 * r + bt s i - 128, ((i + 1 : Nat) : Int), ()), ())) ?_ (r174 s hs k (i + 1) _ (by omega) (by omega) (by omega) (fun h => ?_) (fun h => ?_))
        · simp only [b174_0, B174_0, Tr.val, e0, e1, e2, e3, c1, c2, inB_nat (show i < s.size by omega), show ((i : Int) < (s.size : Int)) by omega, show ¬ ((i : Int) = 0) by omega, decide_true, decide_false, cond_true, cond_false, wrap64_nat (show i ≤ 1048576 by omega)]
        · have := g1 (by omega)
          omega
        · have := g2 (by omega)
          omega
theorem head_le (n : Nat) : 0 ≤ U.head n ∧ U.head n ≤ 240 := by
  unfold U.head
  rcases n with _ | _ | _ | _ | _ | n <;> simp [List.getD]
abbrev E174 : Env := M174 fun key x => bif Nat.beq key 3 then p174_0.ls (fun a => (T174 a).map X174_0) x else none
theorem L174 : LoopOK (evI 2) (E174.lend 0) (lc Tryd.f174 0) := by
  refine l174_0 (T := T174) (fun x => rfl) ?_
  rintro ⟨⟨s, r0, i, z⟩, z'⟩ r h
  obtain ⟨h1, h2⟩ := pre_val h
  rw [Tr.val_spl] at h2
  cases h2
  obtain ⟨a, b, c, d⟩ := of_decide_eq_true h1
  dsimp only at a b c d
  subst c; subst d
  have b0 := bt_ge s 0
  have b1 := bt_lt s 0
  have hh := head_le s.size
  have e0 : IntKind.i32.wrap (bt s 0) = bt s 0 := w32 (by omega) (by omega)
  have e1 : IntKind.i32.wrap (bt s 0 - U.head s.size) = bt s 0 - U.head s.size := w32 (by omega) (by omega)
  unfold U.vL
  have e2 : bt s 0 - [(0 : Int), 0, 192, 224, 240].getD ((s.size : Int).toNat) 0 = bt s 0 - U.head s.size := by rw [Int.toNat_natCast]; rfl
  have i5 : inB (s.size : Int) 5 = true := inBi (by omega) (by omega)
  have i0 : inB 0 s.size = true := inBi (by omega) (by omega)
  by_cases hn : s.size = 1
  · rw [if_pos hn]
    refine .exit ?_
    have hd : decide ((s.size : Int) = 1) = true := decide_eq_true (by omega)
    simp only [b174_0, B174_0, Tr.val, e0, e1, e2, i5, i0, hd, show ((0 : Int) < (s.size : Int)) by omega, decide_true, decide_false, cond_true, cond_false]
  rw [if_neg hn]
  refine .step (y := ((s, bt s 0 - U.head s.size, ((1 : Nat) : Int), ()), ())) ?_ (r174 s b (s.size - 1) 1 _ (by omega) (by omega) (fun _ => by omega) (by omega) (by omega))
  have e3 : IntKind.i64.wrap (0 + 1) = ((1 : Nat) : Int) := by decide
  simp only [b174_0, B174_0, Tr.val, e0, e1, e2, e3, i5, i0, show ((0 : Int) < (s.size : Int)) by omega, show ¬ ((s.size : Int) = 1) by omega, decide_true, decide_false, cond_true, cond_false]
def d174 (a : ByteArray) : Tr (Int) :=
 Tr.ite (decide ((1 : Nat) ≤ a.size ∧ a.size ≤ (4 : Nat) ∧ (0 : Int) = (0 : Int) ∧ (0 : Int) = (0 : Int))) (Tr.ite (U.vL a).isLeft (Tr.ret ((U.vL a).getLeft?.getD ((0 : Int), (0 : Int))).fst) (Tr.ret ((U.vL a).getRight?.getD (0 : Int)))) Tr.fail
def e174 (r : Int) : FRes := { rs := Slot.av (AV.one (Leaf.dat (Kd.int IntKind.i32) r)), upd := [], new := [] }
@[reducible] def a174 : List AK := [AK.d Kd.str]
@[reducible] def b174 : List BK := []
theorem t174 (a : ByteArray) : evFn (E174) Tryd.f174 [PM.data (Kd.int IntKind.i32)] (akAV a174 (a, ())) (bkBs b174 ()) = (d174 a).map e174 := by kernel_rfl
def s174 (C : akT a174 → Bool) (G : akT a174 → Int) : FSpec := aspec a174 b174 e174 (fun x _ => C x) (fun x _ => G x)
theorem k174 {C : akT a174 → Bool} {G : akT a174 → Int} (hd : ∀ (a : ByteArray), C (a, ()) = true → (d174 a).val = some (G (a, ()))) (IO : ItOK Tryd.prog (E174) := by exact itOK_none rfl) (L : ∀ c, Tryd.f174.body = some c → LsOK (evI 2) ((E174).lend 0) c := by exact fun c _ => LsOK_none rfl c) : SpecOK Tryd.prog E0 174 (s174 C G) :=
  aspec_ok (ak := a174) (bl := b174) (e := e174) (c := fun x _ => C x) (g := fun x _ => G x) (E0 := E0) (E := E174) tab .nil rfl rfl hm Tryd.func174 (by kernel_rfl) [PM.data (Kd.int IntKind.i32)] (fun X Y H => by obtain ⟨a, _⟩ := X; exact val_of (t174 a) (hd a H)) IO L
abbrev w174 : FSpec := s174 (fun x => decide (1 ≤ ByteArray.size x.1 ∧ ByteArray.size x.1 ≤ 4)) fun x => U.rv x.1
theorem wk174 : SpecOK Tryd.prog E0 174 w174 := by
  refine k174 (fun s H => ?_) (L := ls_ok (lcs := [lc Tryd.f174 0]) (rgs := []) (by kernel_rfl) (by kernel_rfl) L174 trivial)
  obtain ⟨h1, h2⟩ : 1 ≤ s.size ∧ s.size ≤ 4 := of_decide_eq_true H
  show _ = some (U.rv s)
  simp only [d174, Tr.val, h1, h2, decide_true, and_self, cond_true]
  unfold U.rv
  cases U.vL s <;> rfl
abbrev G173 : List (Nat × FSpec) := [(174, w174)]
def live173 (key : Nat) : Lv :=
  bif Nat.beq key 10 then { ls := [1, 6, 7] } else bif Nat.beq key 1010 then { ls := [1, 6, 7] } else
  bif Nat.beq key 4 then { ls := [0, 1, 5] } else bif Nat.beq key 1004 then { ls := [0, 1, 4] } else
  { ls := [] }
abbrev M173 (ls : Nat → VS → Option (Tr (Ex × VS))) : Env := (E0.withFns G173).loops live173 ls
@[reducible] def p173_0 : LP := { n := 68, sl := [.d (Kd.str), .d (.int .i64), .d (.int .i64)], bl := [] }
def B173_0 (x0 : ByteArray) (x1 : Int) (x2 : Int) : Tr (p173_0.T ⊕ (ByteArray × Int ⊕ ByteArray × Int)) :=
 Tr.ite (decide (x2 < (↑x0.size : Int))) (Tr.ite (inB x2 x0.size) (Tr.ite (decide (bt x0 x2 < (128 : Int))) (Tr.ret (Sum.inr (Sum.inl (x0, x1)))) (Tr.ite (inB x2 x0.size) (Tr.ite (decide ((191 : Int) < bt x0 x2)) (Tr.ret (Sum.inr (Sum.inl (x0, x1)))) (Tr.ret (Sum.inl ((x0, x1, IntKind.i64.wrap (x2 + (1 : Int)), ()), ())))) Tr.fail)) Tr.fail) (Tr.ret (Sum.inr (Sum.inr (x0, x1))))
def X173_0 : (ByteArray × Int ⊕ ByteArray × Int) → Ex × VS
  | (.inl r) => Prod.mk Ex.ret { n := 68, v := [Slot.av (AV.one (Leaf.dat Kd.str r.fst)), Slot.av (AV.one (Leaf.dat (.int .i64) r.snd)), Slot.av (AV.one (Leaf.kb false))], h := [] }
  | (.inr r) => Prod.mk (Ex.exit ( 0)) { n := 68, v := [Slot.av (AV.one (Leaf.dat Kd.str r.fst)), Slot.av (AV.one (Leaf.dat (.int .i64) r.snd)), Slot.av (AV.one Leaf.undef)], h := [] }
def b173_0 : p173_0.T → Tr (p173_0.T ⊕ (ByteArray × Int ⊕ ByteArray × Int)) := fun ⟨⟨x0, ⟨x1, ⟨x2, _⟩⟩⟩, _⟩ => B173_0 x0 x1 x2
theorem h173_0 (ls : Nat → VS → Option (Tr (Ex × VS))) (x : p173_0.T) : (evC (evI 2) (lc Tryd.f173 0) (Env.lend (M173 ls) 0) (unV (live173 4) (p173_0.V x))).map (decL 0 (live173 4) (live173 1004)) = (b173_0 x).map (encR p173_0.V X173_0) := by
  obtain ⟨⟨x0, ⟨x1, ⟨x2, _⟩⟩⟩, _⟩ := x; kernel_rfl
theorem c173_0 (x : p173_0.T) : canV 0 (live173 4) (unV (live173 4) (p173_0.V x)) = p173_0.V x := by
  obtain ⟨⟨x0, ⟨x1, ⟨x2, _⟩⟩⟩, _⟩ := x; kernel_rfl
theorem l173_0 {T : p173_0.T → Tr (ByteArray × Int ⊕ ByteArray × Int)} {ls : Nat → VS → Option (Tr (Ex × VS))} (hls : ∀ x, (Env.lend (M173 ls) 0).ls 4 x = p173_0.ls (fun a => (T a).map X173_0) x) (hS : ∀ x r, (T x).val = some r → Rounds b173_0 x r) : LoopOK (evI 2) (Env.lend (M173 ls) 0) (lc Tryd.f173 0) :=
  loopA 4 (live173 4) (live173 1004) p173_0 b173_0 X173_0 T (by kernel_rfl) rfl rfl hls (h173_0 ls) c173_0 hS
def T173_0 (x : p173_0.T) : Tr (ByteArray × Int ⊕ ByteArray × Int) :=
  .ite (decide (1 ≤ ByteArray.size x.1.1 ∧ ByteArray.size x.1.1 ≤ 4 ∧ (x.1.2.2.1 : Int) = 1))
    (.ite (allN (fun i => U.cont (bt x.1.1 ((i + 1 : Nat) : Int))) (ByteArray.size x.1.1 - 1) 0) (.ret (.inr (x.1.1, x.1.2.1))) (.ret (.inl (x.1.1, x.1.2.1)))) .fail
abbrev N173 (ls : Nat → VS → Option (Tr (Ex × VS))) : Env := M173 fun key x => bif Nat.beq key 4 then p173_0.ls (fun a => (T173_0 a).map X173_0) x else ls key x
@[reducible] def p173_1 : LP := { n := 68, sl := [.d (.int .i64), .c (Leaf.row ( 0)), .c (Leaf.row ( 1))], bl := [(0, .row 5 (Kd.int IntKind.u8)), (1, .row 5 (Kd.int IntKind.u8))] }
def B173_1 (x0 : Int) (h0 : List Int) (h1 : List Int) : Tr (p173_1.T ⊕ (Int × List Int × List Int)) :=
 let v1 : Int := ((↑h0.length : Int))
 Tr.ite (decide (v1 < x0)) (Tr.ite (decide ((h0.length + (1 : Nat)) * (1 : Nat) ≤ (140737488355328 : Nat))) (Tr.ite (decide ((h1.length + (1 : Nat)) * (1 : Nat) ≤ (140737488355328 : Nat))) (Tr.ret (Sum.inl ((x0, ()), h0 ++ [(128 : Int)], h1 ++ [(191 : Int)], ()))) Tr.fail) Tr.fail) (Tr.ret (Sum.inr (x0, h0, h1)))
def X173_1 (r : (Int × List Int × List Int)) : Ex × VS := Prod.mk (Ex.exit ( 2)) { n := 68, v := [Slot.av (AV.one (Leaf.dat (.int .i64) r.fst)), Slot.av (AV.one (Leaf.row ( 0))), Slot.av (AV.one (Leaf.row ( 1)))], h := [( 0, Blk.row ( 5) (Kd.int IntKind.u8) r.snd.fst), ( 1, Blk.row ( 5) (Kd.int IntKind.u8) r.snd.snd)] }
def b173_1 : p173_1.T → Tr (p173_1.T ⊕ (Int × List Int × List Int)) := fun ⟨⟨x0, _⟩, ⟨h0, ⟨h1, _⟩⟩⟩ => B173_1 x0 h0 h1
theorem h173_1 (ls : Nat → VS → Option (Tr (Ex × VS))) (x : p173_1.T) : (evC (evI 2) (lc Tryd.f173 1) (Env.lend (N173 ls) 0) (unV (live173 10) (p173_1.V x))).map (decL 0 (live173 10) (live173 1010)) = (b173_1 x).map (encR p173_1.V X173_1) := by
  obtain ⟨⟨x0, _⟩, ⟨h0, ⟨h1, _⟩⟩⟩ := x; kernel_rfl
theorem c173_1 (x : p173_1.T) : canV 0 (live173 10) (unV (live173 10) (p173_1.V x)) = p173_1.V x := by
  obtain ⟨⟨x0, _⟩, ⟨h0, ⟨h1, _⟩⟩⟩ := x; kernel_rfl
theorem l173_1 {T : p173_1.T → Tr (Int × List Int × List Int)} {ls : Nat → VS → Option (Tr (Ex × VS))} (hls : ∀ x, (Env.lend (N173 ls) 0).ls 10 x = p173_1.ls (fun a => (T a).map X173_1) x) (hS : ∀ x r, (T x).val = some r → Rounds b173_1 x r) : LoopOK (evI 2) (Env.lend (N173 ls) 0) (lc Tryd.f173 1) :=
  loopA 10 (live173 10) (live173 1010) p173_1 b173_1 X173_1 T (by kernel_rfl) rfl rfl hls (h173_1 ls) c173_1 hS
theorem L173_0 {ls : Nat → VS → Option (Tr (Ex × VS))} : LoopOK (evI 2) ((N173 ls).lend 0) (lc Tryd.f173 0) := by
  refine l173_0 (T := T173_0) (fun x => rfl) ?_
  rintro ⟨⟨s, n, i, z⟩, z2⟩ r h
  obtain ⟨g1, g2⟩ := pre_val h
  obtain ⟨e1, e2, e3⟩ := of_decide_eq_true g1
  dsimp only at e1 e2 e3 g2
  subst e3
  have := Rounds.all (B := b173_0) (N := s.size - 1) (fun i => ((s, n, ((i + 1 : Nat) : Int), ()), ())) (fun i => U.cont (bt s ((i + 1 : Nat) : Int))) (.inl (s, n)) (.inr (s, n)) (fun i hi => ?_) ?_
  · cases hd : allN (fun i => U.cont (bt s ((i + 1 : Nat) : Int))) (s.size - 1) 0 <;> simp only [hd, Tr.val, cond_true, cond_false] at g2 this <;> cases g2 <;> exact this
  · have h1 : decide (((i + 1 : Nat) : Int) < (s.size : Int)) = true := decide_eq_true (by omega)
    have h2 : inB ((i + 1 : Nat) : Int) s.size = true := inB_nat (by omega)
    simp only [b173_0, B173_0, Tr.val, h1, h2, cond_true, wrap64_nat (show i + 1 ≤ 1048576 by omega)]
    unfold U.cont
    by_cases c1 : bt s ((i + 1 : Nat) : Int) < 128
    · simp only [c1, show ¬ 128 ≤ bt s ((i + 1 : Nat) : Int) by omega, decide_true, decide_false, cond_true, cond_false, Bool.false_and]
    · by_cases c2 : 191 < bt s ((i + 1 : Nat) : Int)
      · simp only [c1, c2, show ¬ bt s ((i + 1 : Nat) : Int) ≤ 191 by omega, decide_true, decide_false, cond_true, cond_false, Bool.and_false]
      · simp only [c1, c2, show bt s ((i + 1 : Nat) : Int) ≤ 191 by omega, show 128 ≤ bt s ((i + 1 : Nat) : Int) by omega, decide_true, decide_false, cond_true, cond_false, Bool.and_self]
  · have h1 : decide (((s.size - 1 + 1 : Nat) : Int) < (s.size : Int)) = false := decide_eq_false (by omega)
    simp only [b173_0, B173_0, Tr.val, h1, cond_false]
def fillTo (l : List Int) (n : Nat) (c : Int) : List Int := l ++ List.replicate (n - l.length) c
def T173_1 (x : p173_1.T) : Tr (Int × List Int × List Int) :=
  .ite (decide (0 ≤ (x.1.1 : Int) ∧ (x.1.1 : Int) ≤ 4 ∧ List.length (α := Int) x.2.1 = List.length (α := Int) x.2.2.1 ∧ List.length (α := Int) x.2.1 ≤ 4))
    (.ret (x.1.1, fillTo x.2.1 (Int.toNat x.1.1) 128, fillTo x.2.2.1 (Int.toNat x.1.1) 191)) .fail
theorem r173 (n : Nat) (hn : n ≤ 4) : ∀ (k : Nat) (l m : List Int), l.length = m.length → l.length ≤ 4 → n - l.length = k → Rounds b173_1 (((n : Int), ()), l, m, ()) ((n : Int), fillTo l n 128, fillTo m n 191)
  | 0, l, m, h1, h2, h3 => by
    refine .exit ?_
    have h4 : decide ((l.length : Int) < (n : Int)) = false := decide_eq_false (by omega)
    simp only [b173_1, B173_1, Tr.val, h4, cond_false, fillTo, h3, ← h1, List.replicate_zero, List.append_nil]
  | k + 1, l, m, h1, h2, h3 => by
    have ih := r173 n hn k (l ++ [128]) (m ++ [191]) (by simp [h1]) (by simp; omega) (by simp; omega)
    have e1 : fillTo (l ++ [128]) n 128 = fillTo l n 128 := by
      simp only [fillTo, List.length_append, List.length_singleton, List.append_assoc, List.singleton_append, ← List.replicate_succ]
      congr 2
      omega
    have e2 : fillTo (m ++ [191]) n 191 = fillTo m n 191 := by
      simp only [fillTo, List.length_append, List.length_singleton, List.append_assoc, List.singleton_append, ← List.replicate_succ]
      congr 2
      omega
    rw [e1, e2] at ih
    refine .step ?_ ih
    have h4 : decide ((l.length : Int) < (n : Int)) = true := decide_eq_true (by omega)
    simp only [b173_1, B173_1, Tr.val, h4, ← h1, show (l.length + 1) * 1 ≤ 140737488355328 by omega, decide_true, cond_true]
abbrev E173 : Env := N173 fun key x => bif Nat.beq key 10 then p173_1.ls (fun a => (T173_1 a).map X173_1) x else none
theorem L173_1 : LoopOK (evI 2) (E173.lend 0) (lc Tryd.f173 1) := by
  refine l173_1 (T := T173_1) (fun x => rfl) ?_
  rintro ⟨⟨n, z⟩, l, m, z2⟩ r h
  obtain ⟨g1, g2⟩ := pre_val h
  obtain ⟨e1, e2, e3, e4⟩ := of_decide_eq_true g1
  dsimp only at e1 e2 e3 e4 g2
  cases g2
  obtain ⟨k, rfl⟩ := Int.eq_ofNat_of_zero_le e1
  exact r173 k (Int.ofNat_le.1 e2) _ l m e3 e4 rfl
def d173 (a : ByteArray) (b : Int) : Tr (Bool) :=
 let v1 : List Int := (fillTo (bytesL a) b.toNat (191 : Int))
 let v2 : List Int := (fillTo (bytesL a) b.toNat (128 : Int))
 Tr.ite (decide (b < (↑a.size : Int))) (Tr.ret false) (Tr.ite (decide ((1 : Nat) ≤ a.size ∧ a.size ≤ (4 : Nat) ∧ (1 : Int) = (1 : Int))) (Tr.ite (allN (fun (i : Nat) => U.cont (bt a (↑(i + (1 : Nat)) : Int))) (a.size - (1 : Nat)) (0 : Nat)) (Tr.ite (decide (a.size ≤ (9223372036854775807 : Nat))) (Tr.ite (decide (a.size ≤ (9223372036854775807 : Nat))) (Tr.ite (decide ((0 : Int) ≤ b ∧ b ≤ (4 : Int) ∧ (bytesL a).length = (bytesL a).length ∧ (bytesL a).length ≤ (4 : Nat))) (Tr.ite (decide ((1 : Nat) ≤ (strOf v2).size ∧ (strOf v2).size ≤ (4 : Nat))) (Tr.ite (decide ((1 : Nat) ≤ (strOf v1).size ∧ (strOf v1).size ≤ (4 : Nat))) (Tr.ite (inB b (5 : Nat)) (Tr.ite (decide (U.rv (strOf v1) < [(0 : Int), (0 : Int), (128 : Int), (2048 : Int), (65536 : Int)].getD b.toNat (0 : Int))) (Tr.ret false) (Tr.ite (decide ((1114111 : Int) < U.rv (strOf v2))) (Tr.ret false) (Tr.ite (decide (U.rv (strOf v2) < (55296 : Int))) (Tr.ret true) (Tr.ret (decide ((57343 : Int) < U.rv (strOf v1))))))) Tr.fail) Tr.fail) Tr.fail) Tr.fail) Tr.fail) Tr.fail) (Tr.ret false)) Tr.fail)
def e173 (r : Bool) : FRes := { rs := Slot.av (AV.one (Leaf.dat Kd.bool r)), upd := [], new := [] }
@[reducible] def a173 : List AK := [AK.d Kd.str, AK.d (.int .i64)]
@[reducible] def b173 : List BK := []
theorem t173 (a : ByteArray) (b : Int) : evFn (E173) Tryd.f173 [PM.data Kd.bool] (akAV a173 (a, b, ())) (bkBs b173 ()) = (d173 a b).map e173 := by kernel_rfl
def s173 (C : akT a173 → Bool) (G : akT a173 → Bool) : FSpec := aspec a173 b173 e173 (fun x _ => C x) (fun x _ => G x)
theorem k173 {C : akT a173 → Bool} {G : akT a173 → Bool} (hd : ∀ (a : ByteArray) (b : Int), C (a, b, ()) = true → (d173 a b).val = some (G (a, b, ()))) (IO : ItOK Tryd.prog (E173) := by exact itOK_none rfl) (L : ∀ c, Tryd.f173.body = some c → LsOK (evI 2) ((E173).lend 0) c := by exact fun c _ => LsOK_none rfl c) : SpecOK Tryd.prog E0 173 (s173 C G) :=
  aspec_ok (ak := a173) (bl := b173) (e := e173) (c := fun x _ => C x) (g := fun x _ => G x) (E0 := E0) (E := E173) tab (.cons wk174 .nil) rfl rfl hm Tryd.func173 (by kernel_rfl) [PM.data Kd.bool] (fun X Y H => by obtain ⟨a, ⟨b, _⟩⟩ := X; exact val_of (t173 a b) (hd a b H)) IO L
end Go.Proofs.YtdlbnlbajnafdaaDoor
namespace U
def rng (lo hi fl : Int) : Bool := !(decide (hi < fl) || decide (1114111 < lo)) && (decide (lo < 55296) || decide (57343 < hi))
def floor (n : Nat) : Int := [(0 : Int), 0, 128, 2048, 65536].getD n 0
def beg (s : ByteArray) (n : Nat) : Bool := allN (fun i => cont (bt s ((i + 1 : Nat) : Int))) (s.size - 1) 0 &&
  rng (rv (strOf (Go.Proofs.YtdlbnlbajnafdaaDoor.fillTo (bytesL s) n 128))) (rv (strOf (Go.Proofs.YtdlbnlbajnafdaaDoor.fillTo (bytesL s) n 191))) (floor n)
end U
namespace Go.Proofs.YtdlbnlbajnafdaaDoor
abbrev w173 : FSpec := s173 (fun x => decide (1 ≤ ByteArray.size x.1 ∧ (ByteArray.size x.1 : Int) ≤ (x.2.1 : Int) ∧ 2 ≤ (x.2.1 : Int) ∧ (x.2.1 : Int) ≤ 4)) fun x => U.beg x.1 x.2.1.toNat
theorem bytesL_len (s : ByteArray) : (bytesL s).length = s.size := by unfold bytesL; rw [List.length_map]; rfl
theorem strOf_size (l : List Int) : (strOf l).size = l.length := by unfold strOf; simp [ByteArray.size]
theorem fillTo_len {l : List Int} {n : Nat} {c : Int} (h : l.length ≤ n) : (fillTo l n c).length = n := by simp [fillTo]; omega
theorem wk173 : SpecOK Tryd.prog E0 173 w173 := by
  refine k173 (fun s n H => ?_) (L := ls_ok (lcs := [lc Tryd.f173 0, lc Tryd.f173 1]) (rgs := []) (by kernel_rfl) (by kernel_rfl) ⟨L173_0, L173_1⟩ trivial)
  obtain ⟨h1, h2, h3, h4⟩ : 1 ≤ s.size ∧ (s.size : Int) ≤ n ∧ 2 ≤ n ∧ n ≤ 4 := of_decide_eq_true H
  obtain ⟨k, rfl⟩ := Int.eq_ofNat_of_zero_le (show 0 ≤ n by omega)
  show _ = some (U.beg s k)
  have hk : s.size ≤ k := by omega
  have hl : (bytesL s).length = s.size := bytesL_len s
  have f1 : (strOf (fillTo (bytesL s) k 128)).size = k := by rw [strOf_size, fillTo_len (by omega)]
  have f2 : (strOf (fillTo (bytesL s) k 191)).size = k := by rw [strOf_size, fillTo_len (by omega)]
  have a1 : decide ((k : Int) < (s.size : Int)) = false := decide_eq_false (by omega)
  have a2 : decide (1 ≤ s.size ∧ s.size ≤ 4 ∧ (1 : Int) = 1) = true := decide_eq_true ⟨h1, by omega, rfl⟩
  have a3 : decide (s.size ≤ 9223372036854775807) = true := decide_eq_true (by omega)
  have a4 : decide ((0 : Int) ≤ (k : Int) ∧ (k : Int) ≤ 4 ∧ (bytesL s).length = (bytesL s).length ∧ (bytesL s).length ≤ 4) = true := decide_eq_true ⟨by omega, by omega, rfl, by omega⟩
  have a5 : decide (1 ≤ k ∧ k ≤ 4) = true := decide_eq_true ⟨by omega, by omega⟩
  have i5 : inB (k : Int) 5 = true := inBi (by omega) (by omega)
  have hf : [(0 : Int), 0, 128, 2048, 65536].getD k 0 = U.floor k := rfl
  have h5 : s.size ≤ 4 := by omega
  have h6 : (bytesL s).length ≤ 4 := by omega
  have h7 : (0 : Int) ≤ (k : Int) := by omega
  simp only [d173, Tr.val, Int.toNat_natCast, f1, f2, a1, a3, a5, i5, hf, h1, h4, h5, h6, h7, and_self, decide_true, cond_true, cond_false]
  unfold U.beg U.rng
  cases allN (fun i => U.cont (bt s ((i + 1 : Nat) : Int))) (s.size - 1) 0 <;> cases decide (U.rv (strOf (fillTo (bytesL s) k 191)) < U.floor k) <;> cases decide (1114111 < U.rv (strOf (fillTo (bytesL s) k 128))) <;>
    cases decide (U.rv (strOf (fillTo (bytesL s) k 128)) < 55296) <;> rfl
abbrev G140 : List (Nat × FSpec) := [(172, w172), (173, w173), (174, w174)]
def live140 (key : Nat) : Lv :=
  bif Nat.beq key 7 then { ls := [0, 2, 3, 4] } else bif Nat.beq key 1007 then { ls := [0, 2, 3, 4] } else
  { ls := [] }
abbrev M140 (ls : Nat → VS → Option (Tr (Ex × VS))) : Env := (E0.withFns G140).loops live140 ls
@[reducible] def p140_0 : LP := { n := 50, sl := [.d (Kd.str), .c (Leaf.ptr ( 0) ( 0)), .d (.int .i64), .d (.int .i64)], bl := [(0, .box [.d (Kd.int IntKind.i32), .d (.int .i64), .d (.int .i64)])] }
def B140_0 (x0 : ByteArray) (x2 : Int) (x3 : Int) (h0_0 : Int) (h0_1 : Int) (h0_2 : Int) : Tr (p140_0.T ⊕ (ByteArray × Int × Int × Int × Int × Int)) :=
 let v1 : Int := (x3 + (1 : Int))
 let v2 : ByteArray := (x0.extract (0 : Nat) (IntKind.i64.wrap v1).toNat)
 Tr.ite (decide (x3 < x2)) (Tr.ite (decide (x3 < (↑x0.size : Int))) (Tr.ite (decide ((0 : Int) ≤ IntKind.i64.wrap v1 ∧ IntKind.i64.wrap v1 ≤ (↑x0.size : Int))) (Tr.ite (decide ((1 : Nat) ≤ v2.size ∧ (↑v2.size : Int) ≤ x2 ∧ (2 : Int) ≤ x2 ∧ x2 ≤ (4 : Int))) (Tr.ite (U.beg v2 x2.toNat) (Tr.ret (Sum.inl ((x0, x2, IntKind.i64.wrap v1, ()), (h0_0, h0_1, h0_2, ()), ()))) (Tr.ret (Sum.inr (x0, x2, x3, h0_0, h0_1, h0_2)))) Tr.fail) Tr.fail) (Tr.ret (Sum.inr (x0, x2, x3, h0_0, h0_1, h0_2)))) (Tr.ret (Sum.inr (x0, x2, x3, h0_0, h0_1, h0_2)))
def X140_0 (r : (ByteArray × Int × Int × Int × Int × Int)) : Ex × VS := Prod.mk (Ex.exit ( 0)) { n := 50, v := [Slot.av (AV.one (Leaf.dat Kd.str r.fst)), Slot.av (AV.one (Leaf.ptr ( 0) ( 0))), Slot.av (AV.one (Leaf.dat (.int .i64) r.snd.fst)), Slot.av (AV.one (Leaf.dat (.int .i64) r.snd.snd.fst))], h := [( 0, Blk.box [Leaf.dat (Kd.int IntKind.i32) r.snd.snd.snd.fst, Leaf.dat (.int .i64) r.snd.snd.snd.snd.fst, Leaf.dat (.int .i64) r.snd.snd.snd.snd.snd])] }
def b140_0 : p140_0.T → Tr (p140_0.T ⊕ (ByteArray × Int × Int × Int × Int × Int)) := fun ⟨⟨x0, ⟨x2, ⟨x3, _⟩⟩⟩, ⟨⟨h0_0, ⟨h0_1, ⟨h0_2, _⟩⟩⟩, _⟩⟩ => B140_0 x0 x2 x3 h0_0 h0_1 h0_2
theorem h140_0 (ls : Nat → VS → Option (Tr (Ex × VS))) (x : p140_0.T) : (evC (evI 2) (lc Tryd.f140 0) (Env.lend (M140 ls) 0) (unV (live140 7) (p140_0.V x))).map (decL 0 (live140 7) (live140 1007)) = (b140_0 x).map (encR p140_0.V X140_0) := by
  obtain ⟨⟨x0, ⟨x2, ⟨x3, _⟩⟩⟩, ⟨⟨h0_0, ⟨h0_1, ⟨h0_2, _⟩⟩⟩, _⟩⟩ := x; kernel_rfl
theorem c140_0 (x : p140_0.T) : canV 0 (live140 7) (unV (live140 7) (p140_0.V x)) = p140_0.V x := by
  obtain ⟨⟨x0, ⟨x2, ⟨x3, _⟩⟩⟩, ⟨⟨h0_0, ⟨h0_1, ⟨h0_2, _⟩⟩⟩, _⟩⟩ := x; kernel_rfl
theorem l140_0 {T : p140_0.T → Tr (ByteArray × Int × Int × Int × Int × Int)} {ls : Nat → VS → Option (Tr (Ex × VS))} (hls : ∀ x, (Env.lend (M140 ls) 0).ls 7 x = p140_0.ls (fun a => (T a).map X140_0) x) (hS : ∀ x r, (T x).val = some r → Rounds b140_0 x r) : LoopOK (evI 2) (Env.lend (M140 ls) 0) (lc Tryd.f140 0) :=
  loopA 7 (live140 7) (live140 1007) p140_0 b140_0 X140_0 T (by kernel_rfl) rfl rfl hls (h140_0 ls) c140_0 hS
end Go.Proofs.YtdlbnlbajnafdaaDoor
namespace U
def pref (s : ByteArray) (n : Nat) : Nat → Nat → Nat
  | 0, k => k
  | f + 1, k => bif decide (k < s.size) && beg (s.extract 0 (k + 1)) n then pref s n f (k + 1) else k
def firstR (s : ByteArray) : Int × Int × Int :=
  if s.size = 0 then (0, 0, 2) else if need (bt s 0) = 0 then (0, 1, 4) else
  let n := (need (bt s 0)).toNat
  let k := pref s n (n - 1) 1
  if k = n then (rv (s.extract 0 n), (n : Int), 0) else if k = s.size then (0, 0, 2) else (0, (k : Int), 4)
end U
namespace Go.Proofs.YtdlbnlbajnafdaaDoor
def T140 (x : p140_0.T) : Tr (ByteArray × Int × Int × Int × Int × Int) :=
  .ite (decide (1 ≤ (x.1.2.1 : Int) ∧ (x.1.2.1 : Int) ≤ 4 ∧ (x.1.2.2.1 : Int) = 1 ∧ 1 ≤ ByteArray.size x.1.1))
    (.ret (x.1.1, x.1.2.1, ((U.pref x.1.1 (Int.toNat x.1.2.1) (Int.toNat x.1.2.1 - 1) 1 : Nat) : Int), x.2.1.1, x.2.1.2.1, x.2.1.2.2.1)) .fail
theorem r140 (s : ByteArray) (n : Nat) (h0 h1 h2 : Int) (hn : n ≤ 4) : ∀ (f k : Nat), k + f = n → 1 ≤ k → k ≤ s.size → Rounds b140_0 ((s, (n : Int), (k : Int), ()), (h0, h1, h2, ()), ()) (s, (n : Int), ((U.pref s n f k : Nat) : Int), h0, h1, h2)
  | 0, k, h3, h4, h5 => by
    refine .exit ?_
    simp only [b140_0, B140_0, Tr.val, show ¬ ((k : Int) < (n : Int)) by omega, decide_false, cond_false, U.pref]
  | f + 1, k, h3, h4, h5 => by
    have w : IntKind.i64.wrap ((k : Int) + 1) = ((k + 1 : Nat) : Int) := wrap64_nat (by omega)
    simp only [U.pref]
    by_cases c1 : k < s.size
    · have hsz : (s.extract 0 (k + 1)).size = k + 1 := U.size_pre (by omega)
      cases c2 : U.beg (s.extract 0 (k + 1)) n with
      | true =>
        rw [decide_eq_true c1, Bool.and_self, cond_true]
        refine .step ?_ (r140 s n h0 h1 h2 hn f (k + 1) (by omega) (by omega) (by omega))
        simp only [b140_0, B140_0, Tr.val, w, Int.toNat_natCast, hsz, c2, show ((k : Int) < (n : Int)) by omega, show ((k : Int) < (s.size : Int)) by omega, show ((0 : Int) ≤ ((k + 1 : Nat) : Int)) by omega, show (((k + 1 : Nat) : Int) ≤ (s.size : Int)) by omega,
          show 1 ≤ k + 1 by omega, show (((k + 1 : Nat) : Int) ≤ (n : Int)) by omega, show ((2 : Int) ≤ (n : Int)) by omega, show ((n : Int) ≤ 4) by omega, and_self, decide_true, cond_true]
      | false =>
        rw [Bool.and_false, cond_false]
        refine .exit ?_
        simp only [b140_0, B140_0, Tr.val, w, Int.toNat_natCast, hsz, c2, show ((k : Int) < (n : Int)) by omega, show ((k : Int) < (s.size : Int)) by omega, show ((0 : Int) ≤ ((k + 1 : Nat) : Int)) by omega, show (((k + 1 : Nat) : Int) ≤ (s.size : Int)) by omega,
          show 1 ≤ k + 1 by omega, show (((k + 1 : Nat) : Int) ≤ (n : Int)) by omega, show ((2 : Int) ≤ (n : Int)) by omega, show ((n : Int) ≤ 4) by omega, and_self, decide_true, cond_true, cond_false]
    · rw [decide_eq_false c1, Bool.false_and, cond_false]
      refine .exit ?_
      simp only [b140_0, B140_0, Tr.val, show ((k : Int) < (n : Int)) by omega, show ¬ ((k : Int) < (s.size : Int)) by omega, decide_true, decide_false, cond_true, cond_false]
abbrev E140 : Env := M140 fun key x => bif Nat.beq key 7 then p140_0.ls (fun a => (T140 a).map X140_0) x else none
theorem L140 : LoopOK (evI 2) (E140.lend 0) (lc Tryd.f140 0) := by
  refine l140_0 (T := T140) (fun x => rfl) ?_
  rintro ⟨⟨s, n, k, z⟩, ⟨h0, h1, h2, z1⟩, z2⟩ r h
  obtain ⟨g1, g2⟩ := pre_val h
  obtain ⟨e1, e2, e3, e4⟩ := of_decide_eq_true g1
  dsimp only at e1 e2 e3 e4 g2
  subst e3
  cases g2
  obtain ⟨m, rfl⟩ := Int.eq_ofNat_of_zero_le (show (0 : Int) ≤ n from Int.le_trans (by omega) e1)
  have e1 : 1 ≤ m := Int.ofNat_le.1 e1
  have e2 : m ≤ 4 := Int.ofNat_le.1 e2
  exact r140 s m h0 h1 h2 e2 (m - 1) 1 (by omega) (by omega) e4
@[reducible] def fstk : Kd := .pr (.int .i32) (.pr (.int .i64) (.pr (.int .i64) .un))
def d140 (a : ByteArray) : Tr (Int × Int × Int) :=
 let v1 : Int := (bt a (0 : Int))
 let v2 : ByteArray := (a.extract (0 : Nat) (U.need v1).toNat)
 let v3 : Int := ((↑(U.pref a (U.need v1).toNat ((U.need v1).toNat - (1 : Nat)) (1 : Nat)) : Int))
 Tr.ite (decide ((↑a.size : Int) = (0 : Int))) (Tr.ret ((0 : Int), (0 : Int), (2 : Int))) (Tr.ite (inB (0 : Int) a.size) (Tr.ite (decide (U.need v1 = (0 : Int))) (Tr.ret ((0 : Int), (1 : Int), (4 : Int))) (Tr.ite (decide ((1 : Int) ≤ U.need v1 ∧ U.need v1 ≤ (4 : Int) ∧ (1 : Int) = (1 : Int) ∧ (1 : Nat) ≤ a.size)) (Tr.ite (decide (v3 = U.need v1)) (Tr.ite (decide ((0 : Int) ≤ U.need v1 ∧ U.need v1 ≤ (↑a.size : Int))) (Tr.ite (decide ((1 : Nat) ≤ v2.size ∧ v2.size ≤ (4 : Nat))) (Tr.ret (U.rv v2, U.need v1, (0 : Int))) Tr.fail) Tr.fail) (Tr.ite (decide (v3 = (↑a.size : Int))) (Tr.ret ((0 : Int), (0 : Int), (2 : Int))) (Tr.ret ((0 : Int), v3, (4 : Int))))) Tr.fail)) Tr.fail)
def e140 (r : Int × Int × Int) : FRes := { rs := Slot.av (AV.agg [Leaf.dat (Kd.int IntKind.i32) r.fst, Leaf.dat (.int .i64) r.snd.fst, Leaf.dat (.int .i64) r.snd.snd]), upd := [], new := [] }
@[reducible] def a140 : List AK := [AK.d Kd.str]
@[reducible] def b140 : List BK := []
theorem t140 (a : ByteArray) : evFn (E140) Tryd.f140 [PM.data fstk] (akAV a140 (a, ())) (bkBs b140 ()) = (d140 a).map e140 := by kernel_rfl
def s140 (C : akT a140 → Bool) (G : akT a140 → Int × Int × Int) : FSpec := aspec a140 b140 e140 (fun x _ => C x) (fun x _ => G x)
theorem k140 {C : akT a140 → Bool} {G : akT a140 → Int × Int × Int} (hd : ∀ (a : ByteArray), C (a, ()) = true → (d140 a).val = some (G (a, ()))) (IO : ItOK Tryd.prog (E140) := by exact itOK_none rfl) (L : ∀ c, Tryd.f140.body = some c → LsOK (evI 2) ((E140).lend 0) c := by exact fun c _ => LsOK_none rfl c) : SpecOK Tryd.prog E0 140 (s140 C G) :=
  aspec_ok (ak := a140) (bl := b140) (e := e140) (c := fun x _ => C x) (g := fun x _ => G x) (E0 := E0) (E := E140) tab (.cons wk172 (.cons wk173 (.cons wk174 .nil))) rfl rfl hm Tryd.func140 (by kernel_rfl) [PM.data fstk] (fun X Y H => by obtain ⟨a, _⟩ := X; exact val_of (t140 a) (hd a H)) IO L
abbrev w140 : FSpec := s140 (fun x => decide (ByteArray.size x.1 ≤ 1048576)) fun x => U.firstR x.1
theorem pref_le (s : ByteArray) (n : Nat) : ∀ f k, k ≤ s.size → U.pref s n f k ≤ s.size
  | 0, k, h => h
  | f + 1, k, h => by
    simp only [U.pref]
    by_cases c : k < s.size
    · have := pref_le s n f (k + 1) (by omega)
      cases U.beg (s.extract 0 (k + 1)) n <;> simp only [decide_eq_true c, Bool.and_true, Bool.and_false, cond_true, cond_false] <;> omega
    · simp only [decide_eq_false c, Bool.false_and, cond_false]; omega
theorem wk140 : SpecOK Tryd.prog E0 140 w140 := by
  refine k140 (fun s H => ?_) (L := ls_ok (lcs := [lc Tryd.f140 0]) (rgs := []) (by kernel_rfl) (by kernel_rfl) L140 trivial)
  have h0 : s.size ≤ 1048576 := of_decide_eq_true H
  show _ = some (U.firstR s)
  unfold U.firstR
  by_cases h1 : s.size = 0
  · have hd : decide ((s.size : Int) = 0) = true := decide_eq_true (by omega)
    simp only [d140, Tr.val, hd, cond_true, if_pos h1]
  · have i0 : inB 0 s.size = true := inBi (by omega) (by omega)
    have hN := U.need_cases (bt s 0)
    by_cases h2 : U.need (bt s 0) = 0
    · have hd : decide ((s.size : Int) = 0) = false := decide_eq_false (by omega)
      simp only [d140, Tr.val, hd, i0, h2, decide_true, cond_true, cond_false, if_neg h1, if_true]
    · obtain ⟨n, hn⟩ : ∃ n : Nat, U.need (bt s 0) = (n : Int) := Int.eq_ofNat_of_zero_le (by omega)
      have hn1 : 1 ≤ n ∧ n ≤ 4 := by omega
      have hd : decide ((s.size : Int) = 0) = false := decide_eq_false (by omega)
      have hd2 : decide ((n : Int) = 0) = false := decide_eq_false (by omega)
      have hd3 : ((1 : Int) ≤ (n : Int)) := by omega
      have hd4 : ((n : Int) ≤ 4) := by omega
      have hd5 : 1 ≤ s.size := by omega
      rw [hn] at h2
      simp only [d140, Tr.val, hd, i0, hn, hd2, hd3, hd4, hd5, Int.toNat_natCast, decide_true, and_self, cond_true, cond_false, if_neg h1, if_neg h2]
      by_cases h3 : U.pref s n (n - 1) 1 = n
      · have h4 := pref_le s n (n - 1) 1 hd5
        have hsz : (s.extract 0 n).size = n := U.size_pre (by omega)
        have hd6 : ((n : Int) ≤ (s.size : Int)) := by omega
        have hd7 : ((0 : Int) ≤ (n : Int)) := by omega
        simp only [h3, hsz, hd6, hd7, hn1.1, hn1.2, decide_true, and_self, cond_true, if_true]
      · have hd8 : decide (((U.pref s n (n - 1) 1 : Nat) : Int) = (n : Int)) = false := decide_eq_false (by omega)
        by_cases h4 : U.pref s n (n - 1) 1 = s.size
        · have hd9 : decide (((U.pref s n (n - 1) 1 : Nat) : Int) = (s.size : Int)) = true := decide_eq_true (by omega)
          simp only [hd8, hd9, cond_true, cond_false, if_neg h3, if_pos h4]
        · have hd9 : decide (((U.pref s n (n - 1) 1 : Nat) : Int) = (s.size : Int)) = false := decide_eq_false (by omega)
          simp only [hd8, hd9, cond_false, if_neg h3, if_neg h4]
end Go.Proofs.YtdlbnlbajnafdaaDoor
end
section
set_option linter.unusedVariables false
set_option linter.unusedSimpArgs false
set_option maxRecDepth 20000
open Go Go.Ev
namespace U
open Go.Proofs.YtdlbnlbajnafdaaDoor
theorem bt_strOf {l : List Int} (h : ∀ x ∈ l, 0 ≤ x ∧ x ≤ 255) {i : Nat} (hi : i < l.length) : bt (strOf l) (i : Int) = l.getD i 0 := by
  rw [bt_eq (by omega)]
  have e : bl (strOf l) = l.map fun n => UInt8.ofNat n.toNat := by unfold strOf; rw [bl_mk]
  obtain ⟨h0, h1⟩ := h l[i] (List.getElem_mem hi)
  rw [e, Int.toNat_natCast, getD_el (by simpa using hi), List.getElem_map, getD_el hi]
  show ((UInt8.ofNat l[i].toNat).toNat : Int) = l[i]
  rw [UInt8.toNat_ofNat']
  have : l[i].toNat % 2 ^ 8 = l[i].toNat := Nat.mod_eq_of_lt (by omega)
  rw [this]
  omega
theorem bytesL_at {s : ByteArray} {i : Nat} (hi : i < s.size) : (bytesL s).getD i 0 = bt s (i : Int) := by
  have h2 : i < s.data.toList.length := by
    have := bl_len s
    unfold bl at this
    omega
  rw [bt_eq (by omega), Int.toNat_natCast]
  unfold bytesL bl
  rw [List.getD_eq_getElem?_getD, List.getD_eq_getElem?_getD, List.getElem?_map, List.getElem?_eq_getElem h2]
  rfl
theorem bytesL_in {s : ByteArray} : ∀ x ∈ bytesL s, 0 ≤ x ∧ x ≤ 255 := by
  intro x hx
  unfold bytesL at hx
  obtain ⟨b, _, rfl⟩ := List.mem_map.1 hx
  have := UInt8.toNat_lt b
  omega
theorem fill_at {s : ByteArray} {n : Nat} {c : Int} (hc : 0 ≤ c ∧ c ≤ 255) (hs : s.size ≤ n) {i : Nat} (hi : i < n) : bt (strOf (fillTo (bytesL s) n c)) (i : Int) = if i < s.size then bt s (i : Int) else c := by
  have hl : (bytesL s).length = s.size := Ev.bytesL_len
  rw [bt_strOf (fun x hx => ?_) (by rw [fillTo_len (by omega)]; exact hi)]
  · unfold fillTo
    by_cases h : i < s.size
    · rw [if_pos h, ← bytesL_at h, List.getD_eq_getElem?_getD, List.getD_eq_getElem?_getD, List.getElem?_append_left (by omega)]
    · rw [if_neg h, List.getD_eq_getElem?_getD, List.getElem?_append_right (by omega), List.getElem?_replicate, if_pos (by omega)]
      rfl
  · rcases List.mem_append.1 hx with hx | hx
    · exact bytesL_in x hx
    · rw [List.eq_of_mem_replicate hx]; exact hc
theorem fill_size {s : ByteArray} {n : Nat} {c : Int} (hs : s.size ≤ n) : (strOf (fillTo (bytesL s) n c)).size = n := by
  rw [strOf_size, fillTo_len (by rw [Ev.bytesL_len]; exact hs)]
theorem rv2 {s : ByteArray} (h : s.size = 2) : rv s = if cont (bt s (1 : Nat)) = true then 64 * (bt s 0 - 192) + bt s (1 : Nat) - 128 else -1 := by
  unfold rv vL
  rw [h, if_neg (by omega)]
  simp only [vl, head, List.getD, show (2 : Nat) - 1 = 0 + 1 from rfl]
  by_cases h1 : cont (bt s (1 : Nat)) = true <;> simp_all
theorem rv3 {s : ByteArray} (h : s.size = 3) : rv s = if cont (bt s (1 : Nat)) = true ∧ cont (bt s (2 : Nat)) = true then 64 * (64 * (bt s 0 - 224) + bt s (1 : Nat) - 128) + bt s (2 : Nat) - 128 else -1 := by
  unfold rv vL
  rw [h, if_neg (by omega)]
  simp only [vl, head, List.getD, show (3 : Nat) - 1 = 0 + 1 + 1 from rfl]
  by_cases h1 : cont (bt s (1 : Nat)) = true <;> by_cases h2 : cont (bt s (2 : Nat)) = true <;> simp_all
theorem rv4 {s : ByteArray} (h : s.size = 4) : rv s = if cont (bt s (1 : Nat)) = true ∧ cont (bt s (2 : Nat)) = true ∧ cont (bt s (3 : Nat)) = true then 64 * (64 * (64 * (bt s 0 - 240) + bt s (1 : Nat) - 128) + bt s (2 : Nat) - 128) + bt s (3 : Nat) - 128 else -1 := by
  unfold rv vL
  rw [h, if_neg (by omega)]
  simp only [vl, head, List.getD, show (4 : Nat) - 1 = 0 + 1 + 1 + 1 from rfl]
  by_cases h1 : cont (bt s (1 : Nat)) = true <;> by_cases h2 : cont (bt s (2 : Nat)) = true <;> by_cases h3 : cont (bt s (3 : Nat)) = true <;> simp_all
theorem cont_iff {c : Int} : cont c = true ↔ 128 ≤ c ∧ c ≤ 191 := by simp [cont]
theorem beg2 {s : ByteArray} {n : Nat} (hn : need (bt s 0) = n) (h2 : 2 ≤ n) (hs : 2 ≤ s.size) : beg (s.extract 0 2) n = ok1 s := by
  have hz : (s.extract 0 2).size = 2 := size_pre hs
  have t0 : bt (s.extract 0 2) 0 = bt s 0 := bt_pre (i := 0) (by omega) hs
  have t1 : bt (s.extract 0 2) (1 : Nat) = bt s (1 : Nat) := bt_pre (i := 1) (by omega) hs
  have F : ∀ (c : Int), 0 ≤ c ∧ c ≤ 255 → ∀ i, i < n → bt (strOf (fillTo (bytesL (s.extract 0 2)) n c)) (i : Nat) = if i < 2 then bt (s.extract 0 2) (i : Nat) else c := fun c hc i hi => by
    rw [fill_at hc (by omega) hi, hz]
  have Z : ∀ c, (strOf (fillTo (bytesL (s.extract 0 2)) n c)).size = n := fun c => fill_size (by omega)
  have b1 := bt_ge s (1 : Nat)
  have b2 := bt_lt s (1 : Nat)
  have hN := need_cases (bt s 0)
  have e1 : bt s 1 = bt s (1 : Nat) := rfl
  unfold beg ok1
  rw [hz, e1]
  have ha : allN (fun i => cont (bt (s.extract 0 2) ((i + 1 : Nat) : Int))) (2 - 1) 0 = cont (bt s (1 : Nat)) := by
    show (cont (bt (s.extract 0 2) ((0 + 1 : Nat) : Int)) && true) = _
    rw [Bool.and_true]
    exact congrArg cont t1
  rw [ha]
  have hc8 : cont 128 = true := by decide
  have hc9 : cont 191 = true := by decide
  have f0 : ∀ c, 0 ≤ c ∧ c ≤ 255 → bt (strOf (fillTo (bytesL (s.extract 0 2)) n c)) 0 = bt s 0 := fun c hc => (F c hc 0 (by omega)).trans (by rw [if_pos (by omega)]; exact t0)
  have f1 : ∀ c, 0 ≤ c ∧ c ≤ 255 → bt (strOf (fillTo (bytesL (s.extract 0 2)) n c)) (1 : Nat) = bt s (1 : Nat) := fun c hc => (F c hc 1 (by omega)).trans (by rw [if_pos (by omega)]; exact t1)
  have f2 : ∀ c, 0 ≤ c ∧ c ≤ 255 → 3 ≤ n → bt (strOf (fillTo (bytesL (s.extract 0 2)) n c)) (2 : Nat) = c := fun c hc h => (F c hc 2 (by omega)).trans (by rw [if_neg (by omega)])
  have f3 : ∀ c, 0 ≤ c ∧ c ≤ 255 → 4 ≤ n → bt (strOf (fillTo (bytesL (s.extract 0 2)) n c)) (3 : Nat) = c := fun c hc h => (F c hc 3 (by omega)).trans (by rw [if_neg (by omega)])
  cases hcb : cont (bt s (1 : Nat)) with
  | false =>
    have h1 := lo_ge (bt s 0)
    have h2 := hi_le (bt s 0)
    have : ¬ (128 ≤ bt s (1 : Nat) ∧ bt s (1 : Nat) ≤ 191) := fun h => by rw [cont_iff.2 h] at hcb; cases hcb
    rw [Bool.false_and, eq_comm, Bool.and_eq_false_iff, decide_eq_false_iff_not, decide_eq_false_iff_not]
    omega
  | true =>
    have h1 := cont_iff.1 hcb
    rw [Bool.true_and]
    have hn3 : n = 2 ∨ n = 3 ∨ n = 4 := by omega
    rcases hn3 with rfl | rfl | rfl
    · rw [rv2 (Z 128), rv2 (Z 191), f0 _ (by omega), f0 _ (by omega), f1 _ (by omega), f1 _ (by omega), if_pos hcb]
      rw [Bool.eq_iff_iff, show floor 2 = 128 from rfl]
      simp only [rng, lo, hi, Bool.and_eq_true, Bool.not_eq_true', Bool.or_eq_false_iff, decide_eq_false_iff_not, decide_eq_true_eq, Bool.or_eq_true]
      repeat' split
      all_goals simp only [decide_eq_true_eq]
      all_goals omega
    · rw [rv3 (Z 128), rv3 (Z 191), f0 _ (by omega), f0 _ (by omega), f1 _ (by omega), f1 _ (by omega), f2 _ (by omega) (by omega), f2 _ (by omega) (by omega), if_pos ⟨hcb, hc8⟩, if_pos ⟨hcb, hc9⟩]
      rw [Bool.eq_iff_iff, show floor 3 = 2048 from rfl]
      simp only [rng, lo, hi, Bool.and_eq_true, Bool.not_eq_true', Bool.or_eq_false_iff, decide_eq_false_iff_not, decide_eq_true_eq, Bool.or_eq_true]
      repeat' split
      all_goals simp only [decide_eq_true_eq]
      all_goals omega
    · rw [rv4 (Z 128), rv4 (Z 191), f0 _ (by omega), f0 _ (by omega), f1 _ (by omega), f1 _ (by omega), f2 _ (by omega) (by omega), f2 _ (by omega) (by omega), f3 _ (by omega) (by omega), f3 _ (by omega) (by omega), if_pos ⟨hcb, hc8, hc8⟩, if_pos ⟨hcb, hc9, hc9⟩]
      rw [Bool.eq_iff_iff, show floor 4 = 65536 from rfl]
      simp only [rng, lo, hi, Bool.and_eq_true, Bool.not_eq_true', Bool.or_eq_false_iff, decide_eq_false_iff_not, decide_eq_true_eq, Bool.or_eq_true]
      repeat' split
      all_goals simp only [decide_eq_true_eq]
      all_goals omega
theorem beg3 {s : ByteArray} {n : Nat} (hn : need (bt s 0) = n) (h2 : 3 ≤ n) (hs : 3 ≤ s.size) (ho : ok1 s = true) : beg (s.extract 0 3) n = cont (bt s (2 : Nat)) := by
  have hz : (s.extract 0 3).size = 3 := size_pre hs
  have t0 : bt (s.extract 0 3) 0 = bt s 0 := bt_pre (i := 0) (by omega) hs
  have t1 : bt (s.extract 0 3) (1 : Nat) = bt s (1 : Nat) := bt_pre (i := 1) (by omega) hs
  have t2 : bt (s.extract 0 3) (2 : Nat) = bt s (2 : Nat) := bt_pre (i := 2) (by omega) hs
  have F : ∀ (c : Int), 0 ≤ c ∧ c ≤ 255 → ∀ i, i < n → bt (strOf (fillTo (bytesL (s.extract 0 3)) n c)) (i : Nat) = if i < 3 then bt (s.extract 0 3) (i : Nat) else c := fun c hc i hi => by
    rw [fill_at hc (by omega) hi, hz]
  have Z : ∀ c, (strOf (fillTo (bytesL (s.extract 0 3)) n c)).size = n := fun c => fill_size (by omega)
  have hN := need_cases (bt s 0)
  have b3 := bt_ge s (2 : Nat)
  have hl := lo_ge (bt s 0)
  have hh := hi_le (bt s 0)
  unfold ok1 at ho
  simp only [Bool.and_eq_true, decide_eq_true_eq] at ho
  have e1 : bt s 1 = bt s (1 : Nat) := rfl
  rw [e1] at ho
  have hcb : cont (bt s (1 : Nat)) = true := cont_iff.2 (by omega)
  unfold beg
  rw [hz]
  have ha : allN (fun i => cont (bt (s.extract 0 3) ((i + 1 : Nat) : Int))) (3 - 1) 0 = cont (bt s (2 : Nat)) := by
    show (cont (bt (s.extract 0 3) ((0 + 1 : Nat) : Int)) && (cont (bt (s.extract 0 3) ((1 + 1 : Nat) : Int)) && true)) = _
    rw [Bool.and_true, show cont (bt (s.extract 0 3) ((0 + 1 : Nat) : Int)) = true from (congrArg cont t1).trans hcb, Bool.true_and]
    exact congrArg cont t2
  rw [ha]
  have hc8 : cont 128 = true := by decide
  have hc9 : cont 191 = true := by decide
  have f0 : ∀ c, 0 ≤ c ∧ c ≤ 255 → bt (strOf (fillTo (bytesL (s.extract 0 3)) n c)) 0 = bt s 0 := fun c hc => (F c hc 0 (by omega)).trans (by rw [if_pos (by omega)]; exact t0)
  have f1 : ∀ c, 0 ≤ c ∧ c ≤ 255 → bt (strOf (fillTo (bytesL (s.extract 0 3)) n c)) (1 : Nat) = bt s (1 : Nat) := fun c hc => (F c hc 1 (by omega)).trans (by rw [if_pos (by omega)]; exact t1)
  have f2 : ∀ c, 0 ≤ c ∧ c ≤ 255 → bt (strOf (fillTo (bytesL (s.extract 0 3)) n c)) (2 : Nat) = bt s (2 : Nat) := fun c hc => (F c hc 2 (by omega)).trans (by rw [if_pos (by omega)]; exact t2)
  have f3 : ∀ c, 0 ≤ c ∧ c ≤ 255 → 4 ≤ n → bt (strOf (fillTo (bytesL (s.extract 0 3)) n c)) (3 : Nat) = c := fun c hc h => (F c hc 3 (by omega)).trans (by rw [if_neg (by omega)])
  cases hcb2 : cont (bt s (2 : Nat)) with
  | false => rfl
  | true =>
    have h1 := cont_iff.1 hcb2
    rw [Bool.true_and]
    have hn3 : n = 3 ∨ n = 4 := by omega
    rcases hn3 with rfl | rfl
    · rw [rv3 (Z 128), rv3 (Z 191), f0 _ (by omega), f0 _ (by omega), f1 _ (by omega), f1 _ (by omega), f2 _ (by omega), f2 _ (by omega), if_pos ⟨hcb, hcb2⟩]
      simp only [rng, show floor 3 = 2048 from rfl, Bool.and_eq_true, Bool.not_eq_true', Bool.or_eq_false_iff, decide_eq_false_iff_not, decide_eq_true_eq, Bool.or_eq_true]
      unfold lo hi at ho
      repeat' split at ho
      all_goals omega
    · rw [rv4 (Z 128), rv4 (Z 191), f0 _ (by omega), f0 _ (by omega), f1 _ (by omega), f1 _ (by omega), f2 _ (by omega), f2 _ (by omega), f3 _ (by omega) (by omega), f3 _ (by omega) (by omega), if_pos ⟨hcb, hcb2, hc8⟩, if_pos ⟨hcb, hcb2, hc9⟩]
      simp only [rng, show floor 4 = 65536 from rfl, Bool.and_eq_true, Bool.not_eq_true', Bool.or_eq_false_iff, decide_eq_false_iff_not, decide_eq_true_eq, Bool.or_eq_true]
      unfold lo hi at ho
      repeat' split at ho
      all_goals omega
theorem beg4 {s : ByteArray} (hn : need (bt s 0) = 4) (hs : 4 ≤ s.size) (ho : ok1 s = true) (hc : cont (bt s (2 : Nat)) = true) : beg (s.extract 0 4) 4 = cont (bt s (3 : Nat)) := by
  have hz : (s.extract 0 4).size = 4 := size_pre hs
  have t0 : bt (s.extract 0 4) 0 = bt s 0 := bt_pre (i := 0) (by omega) hs
  have t1 : bt (s.extract 0 4) (1 : Nat) = bt s (1 : Nat) := bt_pre (i := 1) (by omega) hs
  have t2 : bt (s.extract 0 4) (2 : Nat) = bt s (2 : Nat) := bt_pre (i := 2) (by omega) hs
  have t3 : bt (s.extract 0 4) (3 : Nat) = bt s (3 : Nat) := bt_pre (i := 3) (by omega) hs
  have F : ∀ (c : Int), 0 ≤ c ∧ c ≤ 255 → ∀ i, i < 4 → bt (strOf (fillTo (bytesL (s.extract 0 4)) 4 c)) (i : Nat) = bt (s.extract 0 4) (i : Nat) := fun c hc i hi => by
    rw [fill_at hc (by omega) hi, hz, if_pos hi]
  have Z : ∀ c, (strOf (fillTo (bytesL (s.extract 0 4)) 4 c)).size = 4 := fun c => fill_size (by omega)
  have hN := need_cases (bt s 0)
  have hl := lo_ge (bt s 0)
  have hh := hi_le (bt s 0)
  unfold ok1 at ho
  simp only [Bool.and_eq_true, decide_eq_true_eq] at ho
  have e1 : bt s 1 = bt s (1 : Nat) := rfl
  rw [e1] at ho
  have hcb : cont (bt s (1 : Nat)) = true := cont_iff.2 (by omega)
  unfold beg
  rw [hz]
  have ha : allN (fun i => cont (bt (s.extract 0 4) ((i + 1 : Nat) : Int))) (4 - 1) 0 = cont (bt s (3 : Nat)) := by
    show (cont (bt (s.extract 0 4) ((0 + 1 : Nat) : Int)) && (cont (bt (s.extract 0 4) ((1 + 1 : Nat) : Int)) && (cont (bt (s.extract 0 4) ((2 + 1 : Nat) : Int)) && true))) = _
    rw [Bool.and_true, show cont (bt (s.extract 0 4) ((0 + 1 : Nat) : Int)) = true from (congrArg cont t1).trans hcb, show cont (bt (s.extract 0 4) ((1 + 1 : Nat) : Int)) = true from (congrArg cont t2).trans hc, Bool.true_and, Bool.true_and]
    exact congrArg cont t3
  rw [ha]
  have f0 : ∀ c, 0 ≤ c ∧ c ≤ 255 → bt (strOf (fillTo (bytesL (s.extract 0 4)) 4 c)) 0 = bt s 0 := fun c hc => (F c hc 0 (by omega)).trans t0
  have f1 : ∀ c, 0 ≤ c ∧ c ≤ 255 → bt (strOf (fillTo (bytesL (s.extract 0 4)) 4 c)) (1 : Nat) = bt s (1 : Nat) := fun c hc => (F c hc 1 (by omega)).trans t1
  have f2 : ∀ c, 0 ≤ c ∧ c ≤ 255 → bt (strOf (fillTo (bytesL (s.extract 0 4)) 4 c)) (2 : Nat) = bt s (2 : Nat) := fun c hc => (F c hc 2 (by omega)).trans t2
  have f3 : ∀ c, 0 ≤ c ∧ c ≤ 255 → bt (strOf (fillTo (bytesL (s.extract 0 4)) 4 c)) (3 : Nat) = bt s (3 : Nat) := fun c hc => (F c hc 3 (by omega)).trans t3
  cases hcb2 : cont (bt s (3 : Nat)) with
  | false => rfl
  | true =>
    have h1 := cont_iff.1 hcb2
    have h2 := cont_iff.1 hc
    rw [Bool.true_and, rv4 (Z 128), rv4 (Z 191), f0 _ (by omega), f0 _ (by omega), f1 _ (by omega), f1 _ (by omega), f2 _ (by omega), f2 _ (by omega), f3 _ (by omega), f3 _ (by omega), if_pos ⟨hcb, hc, hcb2⟩]
    simp only [rng, show floor 4 = 65536 from rfl, Bool.and_eq_true, Bool.not_eq_true', Bool.or_eq_false_iff, decide_eq_false_iff_not, decide_eq_true_eq, Bool.or_eq_true]
    unfold lo hi at ho
    repeat' split at ho
    all_goals omega
theorem rvx1 {s : ByteArray} (h : 1 ≤ s.size) : rv (s.extract 0 1) = bt s 0 := by
  have hz : (s.extract 0 1).size = 1 := size_pre h
  unfold rv vL
  rw [if_pos hz]
  exact bt_pre (i := 0) (by omega) h
theorem rvx2 {s : ByteArray} (h : 2 ≤ s.size) (h1 : cont (bt s (1 : Nat)) = true) : rv (s.extract 0 2) = val2 s := by
  rw [rv2 (size_pre h), show bt (s.extract 0 2) (1 : Nat) = bt s (1 : Nat) from bt_pre (i := 1) (by omega) h, show bt (s.extract 0 2) 0 = bt s 0 from bt_pre (i := 0) (by omega) h, if_pos h1]
  unfold val2
  show _ = (bt s 0 - 192) * 64 + (bt s (1 : Nat) - 128)
  omega
theorem rvx3 {s : ByteArray} (h : 3 ≤ s.size) (h1 : cont (bt s (1 : Nat)) = true) (h2 : cont (bt s (2 : Nat)) = true) : rv (s.extract 0 3) = val3 s := by
  rw [rv3 (size_pre h), show bt (s.extract 0 3) (1 : Nat) = bt s (1 : Nat) from bt_pre (i := 1) (by omega) h, show bt (s.extract 0 3) (2 : Nat) = bt s (2 : Nat) from bt_pre (i := 2) (by omega) h, show bt (s.extract 0 3) 0 = bt s 0 from bt_pre (i := 0) (by omega) h, if_pos ⟨h1, h2⟩]
  unfold val3
  show _ = (bt s 0 - 224) * 4096 + (bt s (1 : Nat) - 128) * 64 + (bt s (2 : Nat) - 128)
  omega
theorem rvx4 {s : ByteArray} (h : 4 ≤ s.size) (h1 : cont (bt s (1 : Nat)) = true) (h2 : cont (bt s (2 : Nat)) = true) (h3 : cont (bt s (3 : Nat)) = true) : rv (s.extract 0 4) = val4 s := by
  rw [rv4 (size_pre h), show bt (s.extract 0 4) (1 : Nat) = bt s (1 : Nat) from bt_pre (i := 1) (by omega) h, show bt (s.extract 0 4) (2 : Nat) = bt s (2 : Nat) from bt_pre (i := 2) (by omega) h, show bt (s.extract 0 4) (3 : Nat) = bt s (3 : Nat) from bt_pre (i := 3) (by omega) h,
    show bt (s.extract 0 4) 0 = bt s 0 from bt_pre (i := 0) (by omega) h, if_pos ⟨h1, h2, h3⟩]
  unfold val4
  show _ = (bt s 0 - 240) * 262144 + (bt s (1 : Nat) - 128) * 4096 + (bt s (2 : Nat) - 128) * 64 + (bt s (3 : Nat) - 128)
  omega
theorem ok1_cont {s : ByteArray} (ho : ok1 s = true) : cont (bt s (1 : Nat)) = true := by
  have hl := lo_ge (bt s 0)
  have hh := hi_le (bt s 0)
  unfold ok1 at ho
  simp only [Bool.and_eq_true, decide_eq_true_eq] at ho
  exact cont_iff.2 ⟨by have := ho.1; show 128 ≤ bt s 1; omega, by have := ho.2; show bt s 1 ≤ 191; omega⟩
theorem firstR_eq (s : ByteArray) : firstR s = first s := by
  have c2 : bt s 2 = bt s (2 : Nat) := rfl
  have c3 : bt s 3 = bt s (3 : Nat) := rfl
  unfold firstR first
  by_cases h0 : s.size = 0
  · have : full s = false := by unfold full; rw [decide_eq_true h0]; rfl
    rw [if_pos h0, this]; rfl
  rw [if_neg h0]
  have d0 : decide (s.size = 0) = false := decide_eq_false h0
  rcases need_cases (bt s 0) with ⟨hn, hb⟩ | hn | ⟨hn, hb⟩ | ⟨hn, hb⟩ | ⟨hn, hb⟩
  · have f : full s = true := by unfold full; rw [d0, hn, decide_eq_true (show (1 : Int) ≤ (s.size : Int) by omega)]; rfl
    have d : dec s = (bt s 0, 1) := by unfold dec; rw [d0, hn]; rfl
    have l : isL s = true := by unfold isL; rw [d, decide_eq_false (show ¬ (bt s 0, (1 : Int)).1 = 65533 by show ¬ bt s 0 = 65533; omega)]; rfl
    rw [if_neg (by omega), f, l, d, hn]
    show (if pref s 1 0 1 = 1 then (rv (s.extract 0 1), (1 : Int), (0 : Int)) else if pref s 1 0 1 = s.size then (0, 0, 2) else (0, ((pref s 1 0 1 : Nat) : Int), (4 : Int))) = _
    rw [if_pos (show pref s 1 0 1 = 1 from rfl), rvx1 (by omega)]
    rfl
  · have f : full s = true := by unfold full; rw [d0, hn, decide_eq_true (show (0 : Int) ≤ (s.size : Int) by omega)]; rfl
    have d : dec s = (65533, 1) := by unfold dec; rw [d0, hn]; rfl
    have l : isL s = false := by unfold isL; rw [d]; rfl
    have b : bad s = 1 := by unfold bad; rw [hn]; rfl
    rw [if_pos hn, f, l, b]; rfl
  · rw [if_neg (by omega), hn]
    show (if pref s 2 1 1 = 2 then (rv (s.extract 0 2), (2 : Int), (0 : Int)) else if pref s 2 1 1 = s.size then (0, 0, 2) else (0, ((pref s 2 1 1 : Nat) : Int), (4 : Int))) = _
    by_cases h1 : 1 < s.size
    · have f : full s = true := by unfold full; rw [d0, hn, decide_eq_true (show (2 : Int) ≤ (s.size : Int) by omega)]; rfl
      have dz : decide ((s.size : Int) < 2) = false := decide_eq_false (by omega)
      cases ho : ok1 s with
      | true =>
        have p : pref s 2 1 1 = 2 := by simp only [pref, decide_eq_true h1, beg2 (n := 2) hn (by omega) (by omega), ho, Bool.and_self, cond_true]
        have d : dec s = (val2 s, 2) := by unfold dec; rw [d0, hn, dz, ho]; rfl
        have l : isL s = true := by unfold isL; rw [d, decide_eq_true (show (1 : Int) < ((val2 s, (2 : Int)) : Int × Int).2 from (by decide : (1 : Int) < 2)), Bool.or_true]
        rw [p, if_pos rfl, rvx2 (by omega) (ok1_cont ho), f, l, d]
        rfl
      | false =>
        have p : pref s 2 1 1 = 1 := by simp only [pref, decide_eq_true h1, beg2 (n := 2) hn (by omega) (by omega), ho, Bool.and_false, cond_false]
        have d : dec s = (65533, 1) := by unfold dec; rw [d0, hn, dz, ho]; rfl
        have l : isL s = false := by unfold isL; rw [d]; rfl
        have b : bad s = 1 := by unfold bad; rw [hn, ho]; rfl
        rw [p, if_neg (by omega), if_neg (by omega), f, l, b]; rfl
    · have p : pref s 2 1 1 = 1 := by simp only [pref, decide_eq_false h1, Bool.false_and, cond_false]
      have f : full s = false := by unfold full; rw [d0, hn, decide_eq_false (show ¬ (2 : Int) ≤ (s.size : Int) by omega), decide_eq_false h1, decide_eq_false (show ¬ 2 < s.size by omega)]; rfl
      rw [p, if_neg (by omega), if_pos (by omega), f]; rfl
  · rw [if_neg (by omega), hn]
    show (if pref s 3 2 1 = 3 then (rv (s.extract 0 3), (3 : Int), (0 : Int)) else if pref s 3 2 1 = s.size then (0, 0, 2) else (0, ((pref s 3 2 1 : Nat) : Int), (4 : Int))) = _
    by_cases h1 : 1 < s.size
    · cases ho : ok1 s with
      | true =>
        by_cases h2 : 2 < s.size
        · have f : full s = true := by unfold full; rw [d0, hn, decide_eq_true (show (3 : Int) ≤ (s.size : Int) by omega)]; rfl
          have dz : decide ((s.size : Int) < 3) = false := decide_eq_false (by omega)
          cases hc : cont (bt s (2 : Nat)) with
          | true =>
            have p : pref s 3 2 1 = 3 := by simp only [pref, decide_eq_true h1, decide_eq_true h2, beg2 (n := 3) hn (by omega) (by omega), beg3 (n := 3) hn (by omega) (by omega) ho, ho, hc, Bool.and_self, cond_true]
            have d : dec s = (val3 s, 3) := by unfold dec; rw [d0, hn, dz, ho, c2, hc]; rfl
            have l : isL s = true := by unfold isL; rw [d, decide_eq_true (show (1 : Int) < ((val3 s, (3 : Int)) : Int × Int).2 from (by decide : (1 : Int) < 3)), Bool.or_true]
            rw [p, if_pos rfl, rvx3 (by omega) (ok1_cont ho) hc, f, l, d]
            rfl
          | false =>
            have p : pref s 3 2 1 = 2 := by simp only [pref, decide_eq_true h1, decide_eq_true h2, beg2 (n := 3) hn (by omega) (by omega), beg3 (n := 3) hn (by omega) (by omega) ho, ho, hc, Bool.and_self, Bool.and_false, cond_true, cond_false]
            have d : dec s = (65533, 1) := by unfold dec; rw [d0, hn, dz, ho, c2, hc]; rfl
            have l : isL s = false := by unfold isL; rw [d]; rfl
            have b : bad s = 2 := by unfold bad; rw [hn, ho, c2, hc]; rfl
            rw [p, if_neg (by omega), if_neg (by omega), f, l, b]; rfl
        · have p : pref s 3 2 1 = 2 := by simp only [pref, decide_eq_true h1, decide_eq_false h2, beg2 (n := 3) hn (by omega) (by omega), ho, Bool.and_self, Bool.false_and, cond_true, cond_false]
          have f : full s = false := by unfold full; rw [d0, hn, decide_eq_false (show ¬ (3 : Int) ≤ (s.size : Int) by omega), decide_eq_true h1, decide_eq_false h2, ho]; rfl
          rw [p, if_neg (by omega), if_pos (by omega), f]; rfl
      | false =>
        have p : pref s 3 2 1 = 1 := by simp only [pref, decide_eq_true h1, beg2 (n := 3) hn (by omega) (by omega), ho, Bool.and_false, cond_false]
        have f : full s = true := by
          unfold full
          rw [d0, decide_eq_true h1, ho]
          cases decide (need (bt s 0) ≤ (s.size : Int)) <;> rfl
        have d : dec s = (65533, 1) := by
          unfold dec
          rw [d0, hn, ho]
          cases decide ((s.size : Int) < 3) <;> rfl
        have l : isL s = false := by unfold isL; rw [d]; rfl
        have b : bad s = 1 := by unfold bad; rw [hn, ho]; rfl
        rw [p, if_neg (by omega), if_neg (by omega), f, l, b]; rfl
    · have p : pref s 3 2 1 = 1 := by simp only [pref, decide_eq_false h1, Bool.false_and, cond_false]
      have f : full s = false := by unfold full; rw [d0, hn, decide_eq_false (show ¬ (3 : Int) ≤ (s.size : Int) by omega), decide_eq_false h1, decide_eq_false (show ¬ 2 < s.size by omega)]; rfl
      rw [p, if_neg (by omega), if_pos (by omega), f]; rfl
  · rw [if_neg (by omega), hn]
    show (if pref s 4 3 1 = 4 then (rv (s.extract 0 4), (4 : Int), (0 : Int)) else if pref s 4 3 1 = s.size then (0, 0, 2) else (0, ((pref s 4 3 1 : Nat) : Int), (4 : Int))) = _
    by_cases h1 : 1 < s.size
    · cases ho : ok1 s with
      | true =>
        by_cases h2 : 2 < s.size
        · cases hc : cont (bt s (2 : Nat)) with
          | true =>
            by_cases h3 : 3 < s.size
            · have f : full s = true := by unfold full; rw [d0, hn, decide_eq_true (show (4 : Int) ≤ (s.size : Int) by omega)]; rfl
              have dz : decide ((s.size : Int) < 4) = false := decide_eq_false (by omega)
              cases hd : cont (bt s (3 : Nat)) with
              | true =>
                have p : pref s 4 3 1 = 4 := by simp only [pref, decide_eq_true h1, decide_eq_true h2, decide_eq_true h3, beg2 (n := 4) hn (by omega) (by omega), beg3 (n := 4) hn (by omega) (by omega) ho, beg4 hn (by omega) ho hc, ho, hc, hd, Bool.and_self, cond_true]
                have d : dec s = (val4 s, 4) := by unfold dec; rw [d0, hn, dz, ho, c2, hc, c3, hd]; rfl
                have l : isL s = true := by unfold isL; rw [d, decide_eq_true (show (1 : Int) < ((val4 s, (4 : Int)) : Int × Int).2 from (by decide : (1 : Int) < 4)), Bool.or_true]
                rw [p, if_pos rfl, rvx4 (by omega) (ok1_cont ho) hc hd, f, l, d]
                rfl
              | false =>
                have p : pref s 4 3 1 = 3 := by simp only [pref, decide_eq_true h1, decide_eq_true h2, decide_eq_true h3, beg2 (n := 4) hn (by omega) (by omega), beg3 (n := 4) hn (by omega) (by omega) ho, beg4 hn (by omega) ho hc, ho, hc, hd, Bool.and_self, Bool.and_false, cond_true, cond_false]
                have d : dec s = (65533, 1) := by unfold dec; rw [d0, hn, dz, ho, c2, hc, c3, hd]; rfl
                have l : isL s = false := by unfold isL; rw [d]; rfl
                have b : bad s = 3 := by unfold bad; rw [hn, ho, c2, hc]; rfl
                rw [p, if_neg (by omega), if_neg (by omega), f, l, b]; rfl
            · have p : pref s 4 3 1 = 3 := by simp only [pref, decide_eq_true h1, decide_eq_true h2, decide_eq_false h3, beg2 (n := 4) hn (by omega) (by omega), beg3 (n := 4) hn (by omega) (by omega) ho, ho, hc, Bool.and_self, Bool.false_and, cond_true, cond_false]
              have f : full s = false := by unfold full; rw [d0, hn, decide_eq_false (show ¬ (4 : Int) ≤ (s.size : Int) by omega), decide_eq_true h1, decide_eq_true h2, ho, c2, hc]; rfl
              rw [p, if_neg (by omega), if_pos (by omega), f]; rfl
          | false =>
            have p : pref s 4 3 1 = 2 := by simp only [pref, decide_eq_true h1, decide_eq_true h2, beg2 (n := 4) hn (by omega) (by omega), beg3 (n := 4) hn (by omega) (by omega) ho, ho, hc, Bool.and_self, Bool.and_false, cond_true, cond_false]
            have f : full s = true := by
              unfold full
              rw [d0, decide_eq_true h1, decide_eq_true h2, ho, c2, hc]
              cases decide (need (bt s 0) ≤ (s.size : Int)) <;> rfl
            have d : dec s = (65533, 1) := by
              unfold dec
              rw [d0, hn, ho, c2, hc]
              cases decide ((s.size : Int) < 4) <;> rfl
            have l : isL s = false := by unfold isL; rw [d]; rfl
            have b : bad s = 2 := by unfold bad; rw [hn, ho, c2, hc]; rfl
            rw [p, if_neg (by omega), if_neg (by omega), f, l, b]; rfl
        · have p : pref s 4 3 1 = 2 := by simp only [pref, decide_eq_true h1, decide_eq_false h2, beg2 (n := 4) hn (by omega) (by omega), ho, Bool.and_self, Bool.false_and, cond_true, cond_false]
          have f : full s = false := by unfold full; rw [d0, hn, decide_eq_false (show ¬ (4 : Int) ≤ (s.size : Int) by omega), decide_eq_true h1, decide_eq_false h2, ho]; rfl
          rw [p, if_neg (by omega), if_pos (by omega), f]; rfl
      | false =>
        have p : pref s 4 3 1 = 1 := by simp only [pref, decide_eq_true h1, beg2 (n := 4) hn (by omega) (by omega), ho, Bool.and_false, cond_false]
        have f : full s = true := by
          unfold full
          rw [d0, decide_eq_true h1, ho]
          cases decide (need (bt s 0) ≤ (s.size : Int)) <;> rfl
        have d : dec s = (65533, 1) := by
          unfold dec
          rw [d0, hn, ho]
          cases decide ((s.size : Int) < 4) <;> rfl
        have l : isL s = false := by unfold isL; rw [d]; rfl
        have b : bad s = 1 := by unfold bad; rw [hn, ho]; rfl
        rw [p, if_neg (by omega), if_neg (by omega), f, l, b]; rfl
    · have p : pref s 4 3 1 = 1 := by simp only [pref, decide_eq_false h1, Bool.false_and, cond_false]
      have f : full s = false := by unfold full; rw [d0, hn, decide_eq_false (show ¬ (4 : Int) ≤ (s.size : Int) by omega), decide_eq_false h1, decide_eq_false (show ¬ 2 < s.size by omega)]; rfl
      rw [p, if_neg (by omega), if_pos (by omega), f]; rfl
end U
namespace Go.Proofs.YtdlbnlbajnafdaaDoor
open Go Go.Ev Go.RowKit
abbrev w140' : FSpec := s140 (fun x => decide (ByteArray.size x.1 ≤ 1048576)) fun x => U.first x.1
theorem wk140' : SpecOK Tryd.prog E0 140 w140' := by
  have e : w140' = w140 := by unfold w140' w140 s140; congr 1; funext x y; exact (U.firstR_eq x.1).symm
  rw [e]
  exact wk140
def d104 (a : List Cell) (b : Int) : Tr (Bool) :=
 let v1 : Int := ((↑a.length : Int))
 let v2 : Int := (b - (1 : Int))
 let v3 : Int := (b + (1 : Int))
 Tr.ite (inB b a.length) (Tr.ite (decide ((rget celk a b).snd.fst = (2 : Int))) (Tr.ite (decide (IntKind.i64.wrap v3 = v1)) (Tr.ret true) (Tr.ite (inB (IntKind.i64.wrap v3) a.length) (Tr.ret !decide ((rget celk a (IntKind.i64.wrap v3)).snd.fst = (0 : Int))) Tr.fail)) (Tr.ite (inB b a.length) (Tr.ite (decide ((rget celk a b).snd.fst = (0 : Int))) (Tr.ite (decide (b = (0 : Int))) (Tr.ret true) (Tr.ite (inB (IntKind.i64.wrap v2) a.length) (Tr.ret !decide ((rget celk a (IntKind.i64.wrap v2)).snd.fst = (2 : Int))) Tr.fail)) (Tr.ret false)) Tr.fail)) Tr.fail
def e104 (r : Bool) : FRes := { rs := Slot.av (AV.one (Leaf.dat Kd.bool r)), upd := [], new := [] }
@[reducible] def a104 : List AK := [AK.d celk.sl, AK.d (.int .i64)]
@[reducible] def b104 : List BK := []
theorem t104 (a : List Cell) (b : Int) : evFn (E0) Tryd.f104 [PM.data Kd.bool] (akAV a104 (a, b, ())) (bkBs b104 ()) = (d104 a b).map e104 := by kernel_rfl
def s104 (C : akT a104 → Bool) (G : akT a104 → Bool) : FSpec := aspec a104 b104 e104 (fun x _ => C x) (fun x _ => G x)
theorem k104 {C : akT a104 → Bool} {G : akT a104 → Bool} (hd : ∀ (a : List Cell) (b : Int), C (a, b, ()) = true → (d104 a b).val = some (G (a, b, ()))) (IO : ItOK Tryd.prog (E0) := by exact itOK_none rfl) (L : ∀ c, Tryd.f104.body = some c → LsOK (evI 2) ((E0).lend 0) c := by exact fun c _ => LsOK_none rfl c) : SpecOK Tryd.prog E0 104 (s104 C G) :=
  aspec_ok (ak := a104) (bl := b104) (e := e104) (c := fun x _ => C x) (g := fun x _ => G x) (E0 := E0) (E := E0) tab .nil rfl rfl hm Tryd.func104 (by kernel_rfl) [PM.data Kd.bool] (fun X Y H => by obtain ⟨a, ⟨b, _⟩⟩ := X; exact val_of (t104 a b) (hd a b H)) IO L
abbrev G103 : List (Nat × FSpec) := [(157, w157), (140, w140'), (158, w158)]
theorem AG103 : AllFn Tryd.prog E0 G103 := .cons wk157 (.cons wk140' (.cons wk158 .nil))
def live103 (key : Nat) : Lv :=
  bif Nat.beq key 10 then { ls := [4, 5] } else bif Nat.beq key 1010 then { ls := [2, 5] } else
  { ls := [] }
abbrev M103 (ls : Nat → VS → Option (Tr (Ex × VS))) : Env := (E0.withFns G103).loops live103 ls
@[reducible] def p103_0 : LP := { n := 73, sl := [.d (Kd.str), .d (.int .i64)], bl := [] }
def B103_0 (x0 : ByteArray) (x1 : Int) : Tr (p103_0.T ⊕ (Int ⊕ Int)) :=
 let v1 : Int := ((U.first x0).fst)
 let v2 : Int := ((U.first x0).snd.snd)
 let v3 : Int := ((U.first x0).snd.fst)
 Tr.ite (decide ((0 : Int) < (↑x0.size : Int))) (Tr.ite (decide (x0.size ≤ (1048576 : Nat))) (Tr.ite (!decide (v2 = (0 : Int))) (Tr.ret (Sum.inr (Sum.inl x1))) (Tr.ite (!decide (U.width v1 = (0 : Int))) (Tr.ret (Sum.inr (Sum.inl x1))) (Tr.ite (decide ((0 : Int) ≤ v3 ∧ v3 ≤ (↑x0.size : Int))) (Tr.ret (Sum.inl ((x0.extract v3.toNat x0.size, IntKind.i64.wrap (x1 + (1 : Int)), ()), ()))) Tr.fail))) Tr.fail) (Tr.ret (Sum.inr (Sum.inr x1)))
def X103_0 : (Int ⊕ Int) → Ex × VS
  | (.inl r) => Prod.mk Ex.ret { n := 73, v := [Slot.av (AV.one (Leaf.kb false)), Slot.av (AV.one (Leaf.dat (.int .i64) r))], h := [] }
  | (.inr r) => Prod.mk (Ex.exit ( 0)) { n := 73, v := [Slot.av (AV.one Leaf.undef), Slot.av (AV.one (Leaf.dat (.int .i64) r))], h := [] }
def b103_0 : p103_0.T → Tr (p103_0.T ⊕ (Int ⊕ Int)) := fun ⟨⟨x0, ⟨x1, _⟩⟩, _⟩ => B103_0 x0 x1
theorem h103_0 (ls : Nat → VS → Option (Tr (Ex × VS))) (x : p103_0.T) : (evC (evI 2) (lc Tryd.f103 0) (Env.lend (M103 ls) 0) (unV (live103 10) (p103_0.V x))).map (decL 0 (live103 10) (live103 1010)) = (b103_0 x).map (encR p103_0.V X103_0) := by
  obtain ⟨⟨x0, ⟨x1, _⟩⟩, _⟩ := x; kernel_rfl
theorem c103_0 (x : p103_0.T) : canV 0 (live103 10) (unV (live103 10) (p103_0.V x)) = p103_0.V x := by
  obtain ⟨⟨x0, ⟨x1, _⟩⟩, _⟩ := x; kernel_rfl
theorem l103_0 {T : p103_0.T → Tr (Int ⊕ Int)} {ls : Nat → VS → Option (Tr (Ex × VS))} (hls : ∀ x, (Env.lend (M103 ls) 0).ls 10 x = p103_0.ls (fun a => (T a).map X103_0) x) (hS : ∀ x r, (T x).val = some r → Rounds b103_0 x r) : LoopOK (evI 2) (Env.lend (M103 ls) 0) (lc Tryd.f103 0) :=
  loopA 10 (live103 10) (live103 1010) p103_0 b103_0 X103_0 T (by kernel_rfl) rfl rfl hls (h103_0 ls) c103_0 hS
end Go.Proofs.YtdlbnlbajnafdaaDoor
namespace U
def mL (s : ByteArray) (k : Nat) (n : Int) : Int ⊕ Int := match marksL k s n with
  | .inl p => .inl p.2
  | .inr n => .inr n
theorem marksL_bad : ∀ (k : Nat) (s : ByteArray) (n : Int) (p : Int × Int), marksL k s n = .inl p → p.1 = -1
  | 0, s, n, p, h => by cases h
  | k + 1, s, n, p, h => by
    simp only [marksL] at h
    split at h
    · cases h
    · split at h
      · exact marksL_bad k _ _ p h
      · cases h; rfl
theorem marksL_ge : ∀ (k : Nat) (s : ByteArray) (n m : Int), marksL k s n = .inr m → n ≤ m
  | 0, s, n, m, h => by cases h; omega
  | k + 1, s, n, m, h => by
    simp only [marksL] at h
    split at h
    · cases h; omega
    · split at h
      · have := marksL_ge k _ _ m h; omega
      · cases h
end U
namespace Go.Proofs.YtdlbnlbajnafdaaDoor
def T103 (x : p103_0.T) : Tr (Int ⊕ Int) := .ite (decide (ByteArray.size x.1.1 ≤ 1048576 ∧ x.1.2.1 = 0)) (.spl (U.mL x.1.1 (ByteArray.size x.1.1) 0) 0 0) .fail
abbrev E103 : Env := M103 fun key x => bif Nat.beq key 10 then p103_0.ls (fun a => (T103 a).map X103_0) x else none
theorem r103 : ∀ (k : Nat) (s : ByteArray) (n : Nat), s.size ≤ k → n + k ≤ 1048576 → Rounds b103_0 ((s, (n : Int), ()), ()) (U.mL s k n)
  | 0, s, n, h1, h2 => by
    refine .exit ?_
    simp only [b103_0, B103_0, Tr.val, show ¬ ((0 : Int) < (s.size : Int)) by omega, decide_false, cond_false]
    rfl
  | k + 1, s, n, h1, h2 => by
    by_cases h0 : s.size = 0
    · refine .exit ?_
      simp only [b103_0, B103_0, Tr.val, show ¬ ((0 : Int) < (s.size : Int)) by omega, decide_false, cond_false]
      unfold U.mL U.marksL
      rw [if_pos h0]
    · have hp : (0 : Int) < (s.size : Int) := by omega
      have hsz : s.size ≤ 1048576 := by omega
      unfold U.mL U.marksL
      rw [if_neg h0]
      by_cases h3 : (U.first s).2.2 = 0
      · by_cases h4 : U.width (U.first s).1 = 0
        · obtain ⟨a, b⟩ := U.first_ok h3
          rw [if_pos ⟨h3, h4⟩]
          refine .step (y := ((s.extract (U.first s).2.1.toNat s.size, ((n + 1 : Nat) : Int), ()), ())) ?_ ?_
          · have hb : (0 : Int) ≤ (U.first s).2.1 ∧ (U.first s).2.1 ≤ (s.size : Int) := ⟨by omega, b⟩
            simp only [b103_0, B103_0, Tr.val, h3, h4, hp, hsz, hb, decide_true, decide_false, Bool.not_false, Bool.not_true, cond_true, cond_false, wrap64_nat (show n ≤ 1048576 by omega), and_self]
          · refine r103 k _ (n + 1) ?_ (by omega)
            rw [← bl_len, bl_ext, List.length_drop, List.length_take, bl_len]
            omega
        · rw [if_neg (fun h => h4 h.2)]
          refine .exit ?_
          simp only [b103_0, B103_0, Tr.val, h3, h4, hp, hsz, decide_true, decide_false, Bool.not_false, Bool.not_true, cond_true, cond_false]
      · rw [if_neg (fun h => h3 h.1)]
        refine .exit ?_
        simp only [b103_0, B103_0, Tr.val, h3, hp, hsz, decide_true, decide_false, Bool.not_false, Bool.not_true, cond_true, cond_false]
theorem L103 : LoopOK (evI 2) (E103.lend 0) (lc Tryd.f103 0) := by
  refine l103_0 (T := T103) (fun x => rfl) ?_
  rintro ⟨⟨s, n, z⟩, z'⟩ r h
  obtain ⟨h1, h2⟩ := pre_val h
  rw [Tr.val_spl] at h2
  cases h2
  have h1 := of_decide_eq_true h1
  have h3 : n = (0 : Int) := h1.2
  subst h3
  exact r103 _ s 0 (Nat.le_refl _) (by have := h1.1; dsimp at this; omega)
def d103 (a1 : ByteArray) (a2 : Int) (a39 : Int) (a32 : Int) (a33 : Int) : Tr (Bool) :=
 let v1 : Int := ((U.first a1).fst)
 let v2 : Int := ((U.first a1).snd.snd)
 let v3 : Int := ((U.first a1).snd.fst)
 let v4 : ByteArray := (a1.extract v3.toNat a1.size)
 let v5 : Int := ((U.mL v4 v4.size (0 : Int)).getRight?.getD (0 : Int))
 Tr.ite (!U.look (a39, a32, a33, ())) (Tr.ret false) (Tr.ite (decide (a2 < (0 : Int))) (Tr.ret false) (Tr.ite (decide ((2 : Int) < a2)) (Tr.ret false) (Tr.ite (decide (a1 = { data := #[] })) (Tr.ret (decide (a2 < (2 : Int)))) (Tr.ite (decide (a1.size ≤ (1048576 : Nat))) (Tr.ite (!decide (v2 = (0 : Int))) (Tr.ret false) (Tr.ite (decide (a2 = (0 : Int))) (Tr.ret false) (Tr.ite (!decide (U.width v1 = a2)) (Tr.ret false) (Tr.ite (decide ((0 : Int) ≤ v3 ∧ v3 ≤ (↑a1.size : Int))) (Tr.ite (decide (v4.size ≤ (1048576 : Nat) ∧ (0 : Int) = (0 : Int))) (Tr.ite (U.mL v4 v4.size (0 : Int)).isLeft (Tr.ret false) (Tr.ret (decide (v5 ≤ (2 : Int))))) Tr.fail) Tr.fail)))) Tr.fail))))
def e103 (r : Bool) : FRes := { rs := Slot.av (AV.one (Leaf.dat Kd.bool r)), upd := [], new := [] }
@[reducible] def a103 : List AK := [AK.d celk]
@[reducible] def b103 : List BK := []
theorem t103 (a1 : ByteArray) (a2 : Int) (a39 : Int) (a32 : Int) (a33 : Int) : evFn (E103) Tryd.f103 [PM.data Kd.bool] (akAV a103 ((a1, a2, (a39, a32, a33, ()), ()), ())) (bkBs b103 ()) = (d103 a1 a2 a39 a32 a33).map e103 := by kernel_rfl
def s103 (C : akT a103 → Bool) (G : akT a103 → Bool) : FSpec := aspec a103 b103 e103 (fun x _ => C x) (fun x _ => G x)
theorem k103 {C : akT a103 → Bool} {G : akT a103 → Bool} (hd : ∀ (a1 : ByteArray) (a2 : Int) (a39 : Int) (a32 : Int) (a33 : Int), C ((a1, a2, (a39, a32, a33, ()), ()), ()) = true → (d103 a1 a2 a39 a32 a33).val = some (G ((a1, a2, (a39, a32, a33, ()), ()), ()))) (IO : ItOK Tryd.prog (E103) := by exact itOK_none rfl) (L : ∀ c, Tryd.f103.body = some c → LsOK (evI 2) ((E103).lend 0) c := by exact fun c _ => LsOK_none rfl c) : SpecOK Tryd.prog E0 103 (s103 C G) :=
  aspec_ok (ak := a103) (bl := b103) (e := e103) (c := fun x _ => C x) (g := fun x _ => G x) (E0 := E0) (E := E103) tab AG103 rfl rfl hm Tryd.func103 (by kernel_rfl) [PM.data Kd.bool] (fun X Y H => by obtain ⟨⟨a1, ⟨a2, ⟨⟨a39, ⟨a32, ⟨a33, _⟩⟩⟩, _⟩⟩⟩, _⟩ := X; exact val_of (t103 a1 a2 a39 a32 a33) (hd a1 a2 a39 a32 a33 H)) IO L
abbrev w103 : FSpec := s103 (fun x => decide (ByteArray.size x.1.1 ≤ 1048576)) fun x => U.cellR x.1
theorem wk103 : SpecOK Tryd.prog E0 103 w103 := by
  refine k103 (fun s w f g h H => ?_) (L := ls_ok (lcs := [lc Tryd.f103 0]) (rgs := []) (by kernel_rfl) (by kernel_rfl) L103 trivial)
  have H' : s.size ≤ 1048576 := of_decide_eq_true H
  show _ = some (U.cellR (s, w, (f, g, h, ()), ()))
  unfold U.cellR
  cases h5 : U.look (f, g, h, ()) with
  | false =>
    by_cases h0 : s.size = 0
    · simp only [d103, Tr.val, h5, Bool.not_false, cond_true, if_pos h0, Bool.false_and]
    · simp only [d103, Tr.val, h5, Bool.not_false, cond_true, if_neg h0, Bool.false_and, ite_self]
  | true =>
    by_cases h0 : s.size = 0
    · have := ba_nil h0
      subst this
      simp only [d103, Tr.val, h5, Bool.not_true, cond_false, if_pos h0, Bool.true_and, decide_true, cond_true, U.inn]
      by_cases w0 : w < 0
      · simp [w0, show ¬ 0 ≤ w by omega]
      · by_cases w2 : 2 < w
        · simp [w0, w2, show ¬ w ≤ 1 by omega]
        · by_cases w3 : w < 2
          · simp [w0, w2, w3, show 0 ≤ w by omega, show w ≤ 1 by omega]
          · simp [w0, w2, w3, show ¬ w ≤ 1 by omega]
    · have h1 := ba_ne h0
      by_cases h2 : (U.first s).2.2 = 0
      · obtain ⟨a, b⟩ := U.first_ok h2
        have hb : (0 : Int) ≤ (U.first s).2.1 ∧ (U.first s).2.1 ≤ (s.size : Int) := ⟨by omega, b⟩
        have hs : (s.extract (U.first s).2.1.toNat s.size).size ≤ 1048576 := by
          rw [← bl_len, bl_ext, List.length_drop, List.length_take, bl_len]
          omega
        by_cases w0 : w < 0
        · simp [d103, Tr.val, h5, w0, h0, U.inn, show ¬ 1 ≤ w by omega]
        by_cases w2 : 2 < w
        · simp [d103, Tr.val, h5, w0, w2, h0, U.inn, show ¬ w ≤ 2 by omega]
        by_cases w1 : w = 0
        · subst w1
          simp [d103, Tr.val, h5, h0, h1, h2, H', U.inn]
        have hw : U.inn w 1 2 = true := by unfold U.inn; rw [decide_eq_true (show 1 ≤ w by omega), decide_eq_true (show w ≤ 2 by omega)]; rfl
        by_cases h4 : U.width (U.first s).1 = w
        · simp only [d103, Tr.val, h5, h0, h1, h2, h4, w0, w1, w2, hw, hb, hs, H', decide_true, decide_false, cond_true, cond_false, Bool.not_true, Bool.not_false, if_true, if_false, and_self, Bool.true_and]
          unfold U.mL U.marks
          cases hm : U.marksL (s.extract (U.first s).2.1.toNat s.size).size (s.extract (U.first s).2.1.toNat s.size) 0 with
          | inl p =>
            have := U.marksL_bad _ _ _ _ hm
            simp [this, U.inn]
          | inr m =>
            have := U.marksL_ge _ _ _ _ hm
            simp [U.inn, this]
            try rfl
        · simp only [d103, Tr.val, h5, h0, h1, h2, h4, w0, w1, w2, hw, H', decide_true, decide_false, cond_true, cond_false, Bool.not_true, Bool.not_false, if_false, and_false]
      · by_cases w0 : w < 0
        · simp only [d103, Tr.val, h5, w0, h2, if_neg h0, decide_true, cond_true, cond_false, Bool.not_true, false_and, if_false]
        by_cases w2 : 2 < w
        · simp only [d103, Tr.val, h5, w0, w2, h2, if_neg h0, decide_true, decide_false, cond_true, cond_false, Bool.not_true, false_and, if_false]
        simp only [d103, Tr.val, h5, h1, h2, w0, w2, H', if_neg h0, decide_true, decide_false, cond_true, cond_false, Bool.not_true, Bool.not_false, if_false, false_and]
abbrev w104 : FSpec := s104 (fun x => decide (0 ≤ (x.2.1 : Int) ∧ (x.2.1 : Int) < (List.length (α := Cell) x.1 : Int) ∧ List.length (α := Cell) x.1 ≤ 1048576)) fun x => !U.whole x.1 x.2.1.toNat
theorem wk104 : SpecOK Tryd.prog E0 104 w104 := by
  refine k104 fun l i H => ?_
  obtain ⟨h0, h1, h2⟩ := of_decide_eq_true H
  dsimp only at h0 h1 h2
  obtain ⟨n, rfl⟩ := Int.eq_ofNat_of_zero_le h0
  show _ = some (!U.whole l n)
  have hn : n < l.length := Int.ofNat_lt.1 h1
  have w1 : IntKind.i64.wrap ((n : Int) + 1) = ((n + 1 : Nat) : Int) := wrap64_nat (by omega)
  unfold U.whole d104
  simp only [Tr.val, inB_nat hn, cond_true, w1, cw_eq]
  by_cases a : U.cw l n = 2
  · by_cases b : n + 1 < l.length
    · have i1 : inB ((n + 1 : Nat) : Int) l.length = true := inB_nat b
      have i2 : decide (((n + 1 : Nat) : Int) = (l.length : Int)) = false := decide_eq_false (by omega)
      simp only [a, b, i1, i2, cw_eq, decide_true, cond_true, cond_false, if_true, Bool.true_and]
    · have i2 : decide (((n + 1 : Nat) : Int) = (l.length : Int)) = true := decide_eq_true (by omega)
      simp only [a, b, i2, decide_true, decide_false, cond_true, if_true, Bool.false_and, Bool.not_false]
  · by_cases b : U.cw l n = 0
    · by_cases c : 0 < n
      · have w2 : IntKind.i64.wrap ((n : Int) - 1) = ((n - 1 : Nat) : Int) := by
          rw [wrap64_id (by omega) (by omega)]
          omega
        have i1 : inB ((n - 1 : Nat) : Int) l.length = true := inB_nat (by omega)
        have i2 : decide ((n : Int) = 0) = false := decide_eq_false (by omega)
        have a0 : ¬ (0 : Int) = 2 := by decide
        simp only [b, c, w2, i1, i2, cw_eq, a0, decide_true, decide_false, cond_true, cond_false, if_true, if_false, Bool.true_and]
      · have : n = 0 := by omega
        subst this
        simp [a, b]
    · simp [a, b]
abbrev G46 : List (Nat × FSpec) := [(103, w103), (104, w104)]
theorem AG46 : AllFn Tryd.prog E0 G46 := .cons wk103 (.cons wk104 .nil)
def live46 (key : Nat) : Lv :=
  bif Nat.beq key 2 then { ls := [1, 2, 8, 9, 10] } else bif Nat.beq key 1002 then { ls := [1, 2, 4] } else
  { ls := [] }
abbrev M46 (ls : Nat → VS → Option (Tr (Ex × VS))) : Env := (E0.withFns G46).loops live46 ls
@[reducible] def p46_0 : LP := { n := 30, sl := [.d (.int .i64), .c (Leaf.ptr ( 0) ( 0)), .d (celk.sl), .d (.int .i64), .d (.int .i64)], bl := [(0, .box [.d (celk.sl), .d (Kd.bool)])] }
def B46_0 (x0 : Int) (x2 : List Cell) (x3 : Int) (x4 : Int) (h0_0 : List Cell) (h0_1 : Bool) : Tr (p46_0.T ⊕ (Int × List Cell × Bool ⊕ Int × List Cell × Bool)) :=
 let v1 : Int := ((↑h0_0.length : Int))
 Tr.ite (decide (x4 < x3)) (Tr.ite (inB x4 x2.length) (Tr.ite (decide (ByteArray.size (rget celk x2 x4).fst ≤ (1048576 : Nat))) (Tr.ite (!U.cellR (rget celk x2 x4)) (Tr.ret (Sum.inr (Sum.inl (x0, h0_0, h0_1)))) (Tr.ite (decide ((0 : Int) ≤ x4 ∧ x4 < v1 ∧ h0_0.length ≤ (1048576 : Nat))) (Tr.ite (!U.whole h0_0 x4.toNat) (Tr.ret (Sum.inr (Sum.inl (x0, h0_0, h0_1)))) (Tr.ret (Sum.inl ((x0, x2, x3, IntKind.i64.wrap (x4 + (1 : Int)), ()), (h0_0, h0_1, ()), ())))) Tr.fail)) Tr.fail) Tr.fail) (Tr.ret (Sum.inr (Sum.inr (x0, h0_0, h0_1))))
def X46_0 : (Int × List Cell × Bool ⊕ Int × List Cell × Bool) → Ex × VS
  | (.inl r) => Prod.mk Ex.ret { n := 30, v := [Slot.av (AV.one (Leaf.dat (.int .i64) r.fst)), Slot.av (AV.one (Leaf.ptr ( 0) ( 0))), Slot.av (AV.one (Leaf.kb false))], h := [( 0, Blk.box [Leaf.dat celk.sl r.snd.fst, Leaf.dat Kd.bool r.snd.snd])] }
  | (.inr r) => Prod.mk (Ex.exit ( 0)) { n := 30, v := [Slot.av (AV.one (Leaf.dat (.int .i64) r.fst)), Slot.av (AV.one (Leaf.ptr ( 0) ( 0))), Slot.av (AV.one Leaf.undef)], h := [( 0, Blk.box [Leaf.dat celk.sl r.snd.fst, Leaf.dat Kd.bool r.snd.snd])] }
def b46_0 : p46_0.T → Tr (p46_0.T ⊕ (Int × List Cell × Bool ⊕ Int × List Cell × Bool)) := fun ⟨⟨x0, ⟨x2, ⟨x3, ⟨x4, _⟩⟩⟩⟩, ⟨⟨h0_0, ⟨h0_1, _⟩⟩, _⟩⟩ => B46_0 x0 x2 x3 x4 h0_0 h0_1
theorem h46_0 (ls : Nat → VS → Option (Tr (Ex × VS))) (x : p46_0.T) : (evC (evI 2) (lc Tryd.f46 0) (Env.lend (M46 ls) 0) (unV (live46 2) (p46_0.V x))).map (decL 0 (live46 2) (live46 1002)) = (b46_0 x).map (encR p46_0.V X46_0) := by
  obtain ⟨⟨x0, ⟨x2, ⟨x3, ⟨x4, _⟩⟩⟩⟩, ⟨⟨h0_0, ⟨h0_1, _⟩⟩, _⟩⟩ := x; kernel_rfl
theorem c46_0 (x : p46_0.T) : canV 0 (live46 2) (unV (live46 2) (p46_0.V x)) = p46_0.V x := by
  obtain ⟨⟨x0, ⟨x2, ⟨x3, ⟨x4, _⟩⟩⟩⟩, ⟨⟨h0_0, ⟨h0_1, _⟩⟩, _⟩⟩ := x; kernel_rfl
theorem l46_0 {T : p46_0.T → Tr (Int × List Cell × Bool ⊕ Int × List Cell × Bool)} {ls : Nat → VS → Option (Tr (Ex × VS))} (hls : ∀ x, (Env.lend (M46 ls) 0).ls 2 x = p46_0.ls (fun a => (T a).map X46_0) x) (hS : ∀ x r, (T x).val = some r → Rounds b46_0 x r) : LoopOK (evI 2) (Env.lend (M46 ls) 0) (lc Tryd.f46 0) :=
  loopA 2 (live46 2) (live46 1002) p46_0 b46_0 X46_0 T (by kernel_rfl) rfl rfl hls (h46_0 ls) c46_0 hS
def T46 (x : p46_0.T) : Tr (Int × List Cell × Bool ⊕ Int × List Cell × Bool) :=
  .ite (decide ((x.1.2.2.1 : Int) = (List.length (α := Cell) x.1.2.1 : Int) ∧ (x.1.2.2.2.1 : Int) = 0 ∧ List.length (α := Cell) x.1.2.1 ≤ List.length (α := Cell) x.2.1.1 ∧ List.length (α := Cell) x.2.1.1 ≤ 1048576) && U.okc x.1.2.1)
    (.ite (allN (fun i => U.cellR (List.getD (α := Cell) x.1.2.1 i U.dC) && U.whole x.2.1.1 i) (List.length (α := Cell) x.1.2.1) 0) (.ret (.inr (x.1.1, x.2.1.1, x.2.1.2.1))) (.ret (.inl (x.1.1, x.2.1.1, x.2.1.2.1)))) .fail
abbrev E46 : Env := M46 fun key x => bif Nat.beq key 2 then p46_0.ls (fun a => (T46 a).map X46_0) x else none
theorem L46 : LoopOK (evI 2) (E46.lend 0) (lc Tryd.f46 0) := by
  refine l46_0 (T := T46) (fun x => rfl) ?_
  rintro ⟨⟨c, l, n, i, z⟩, ⟨m, s, z1⟩, z2⟩ r h
  obtain ⟨h1, h2⟩ := pre_val h
  rw [Bool.and_eq_true] at h1
  obtain ⟨h1, hok⟩ := h1
  obtain ⟨e1, e2, e3, e4⟩ := of_decide_eq_true h1
  dsimp only at e1 e2 e3 e4 hok h2
  subst e1
  subst e2
  have := Rounds.all (B := b46_0) (N := l.length) (fun i => ((c, l, (l.length : Int), (i : Int), ()), (m, s, ()), ())) (fun i => U.cellR (l.getD i U.dC) && U.whole m i) (.inl (c, m, s)) (.inr (c, m, s)) (fun i hi => ?_) ?_
  · cases ha : allN (fun i => U.cellR (l.getD i U.dC) && U.whole m i) l.length 0 <;> simp only [ha, Tr.val, cond_true, cond_false] at h2 this <;> cases h2 <;> exact this
  · have h3 := U.okc_at hok hi
    simp only [b46_0, B46_0, Tr.val, inB_nat hi, rgetC, h3, Int.toNat_natCast, show ((i : Int) < (l.length : Int)) by omega, show ((0 : Int) ≤ (i : Int) ∧ (i : Int) < (m.length : Int) ∧ m.length ≤ 1048576) by omega, decide_true, cond_true, wrap64_nat (show i ≤ 1048576 by omega)]
    cases U.cellR (l.getD i U.dC) <;> cases U.whole m i <;> rfl
  · simp only [b46_0, B46_0, Tr.val, show ¬ ((l.length : Int) < (l.length : Int)) by omega, decide_false, cond_false]
def d46 (a1 : List Cell) (a2 : Bool) (b : Int) : Tr (Bool) :=
 let v1 : Int := ((↑a1.length : Int))
 let v2 : Int := ((↑a1.length : Int))
 Tr.ite (decide (v2 = v1 ∧ (0 : Int) = (0 : Int) ∧ a1.length ≤ a1.length ∧ a1.length ≤ (1048576 : Nat)) && U.okc a1) (Tr.ite (allN (fun (i : Nat) => U.cellR (a1.getD i U.dC) && U.whole a1 i) a1.length (0 : Nat)) (Tr.ret (decide (v2 = b))) (Tr.ret false)) Tr.fail
def e46 (r : Bool) : FRes := { rs := Slot.av (AV.one (Leaf.dat Kd.bool r)), upd := [], new := [] }
@[reducible] def a46 : List AK := [AK.d link, AK.d (.int .i64)]
@[reducible] def b46 : List BK := []
theorem t46 (a1 : List Cell) (a2 : Bool) (b : Int) : evFn (E46) Tryd.f46 [PM.data Kd.bool] (akAV a46 ((a1, a2, ()), b, ())) (bkBs b46 ()) = (d46 a1 a2 b).map e46 := by kernel_rfl
def s46 (C : akT a46 → Bool) (G : akT a46 → Bool) : FSpec := aspec a46 b46 e46 (fun x _ => C x) (fun x _ => G x)
theorem k46 {C : akT a46 → Bool} {G : akT a46 → Bool} (hd : ∀ (a1 : List Cell) (a2 : Bool) (b : Int), C ((a1, a2, ()), b, ()) = true → (d46 a1 a2 b).val = some (G ((a1, a2, ()), b, ()))) (IO : ItOK Tryd.prog (E46) := by exact itOK_none rfl) (L : ∀ c, Tryd.f46.body = some c → LsOK (evI 2) ((E46).lend 0) c := by exact fun c _ => LsOK_none rfl c) : SpecOK Tryd.prog E0 46 (s46 C G) :=
  aspec_ok (ak := a46) (bl := b46) (e := e46) (c := fun x _ => C x) (g := fun x _ => G x) (E0 := E0) (E := E46) tab AG46 rfl rfl hm Tryd.func46 (by kernel_rfl) [PM.data Kd.bool] (fun X Y H => by obtain ⟨⟨a1, ⟨a2, _⟩⟩, ⟨b, _⟩⟩ := X; exact val_of (t46 a1 a2 b) (hd a1 a2 b H)) IO L
abbrev w46 : FSpec := s46 (fun x => U.okc x.1.1) fun x => U.fitC x.1.1 && decide ((List.length (α := Cell) x.1.1 : Int) = (x.2.1 : Int))
theorem wk46 : SpecOK Tryd.prog E0 46 w46 := by
  refine k46 (fun l s n H => ?_) (L := ls_ok (lcs := [lc Tryd.f46 0]) (rgs := []) (by kernel_rfl) (by kernel_rfl) L46 trivial)
  have H : U.okc l = true := H
  have hl := U.okc_len H
  show _ = some (U.fitC l && decide ((l.length : Int) = n))
  unfold U.fitC
  simp only [d46, Tr.val, H, hl, Nat.le_refl, and_self, decide_true, Bool.and_self, cond_true]
  cases allN (fun i => U.cellR (l.getD i U.dC) && U.whole l i) l.length 0 <;> simp
end Go.Proofs.YtdlbnlbajnafdaaDoor
end
section
set_option linter.unusedVariables false
set_option linter.unusedSimpArgs false
set_option maxRecDepth 20000
open Go Go.Ev
namespace U
open Go.Proofs.YtdlbnlbajnafdaaDoor
theorem cutC_size (c : Cl) : (cutC c).1.size ≤ 20 := by
  show (c.1.extract 0 (min c.1.size 20)).size ≤ 20
  rw [← bl_len, bl_ext, List.length_drop, List.length_take, bl_len]
  omega
theorem cutL_ok (l : List Cl) : okc (cutL l) = true := by
  unfold okc cutL
  rw [Bool.and_eq_true, decide_eq_true_eq, List.all_eq_true]
  refine ⟨by rw [List.length_map, List.length_take]; omega, fun x hx => ?_⟩
  obtain ⟨y, _, rfl⟩ := List.mem_map.1 hx
  exact decide_eq_true (by have := cutC_size y; omega)
theorem eqL_refl (l : Ln) : eqL l l = true := eqL_iff.2 rfl
end U
end
section
set_option linter.unusedVariables false
set_option linter.unusedSimpArgs false
set_option maxRecDepth 20000
open Go Go.Ev
namespace Go.Proofs.YtdlbnlbajnafdaaDoor
open Go.RowKit
def d101 (a : Int) (b : Int) (c : Int) : Tr (Bool) :=
 Tr.ite (decide (b ≤ a)) (Tr.ret (decide (a ≤ c))) (Tr.ret false)
def e101 (r : Bool) : FRes := { rs := Slot.av (AV.one (Leaf.dat Kd.bool r)), upd := [], new := [] }
@[reducible] def a101 : List AK := [AK.d (.int .i64), AK.d (.int .i64), AK.d (.int .i64)]
@[reducible] def b101 : List BK := []
theorem t101 (a : Int) (b : Int) (c : Int) : evFn (E0) Tryd.f101 [PM.data Kd.bool] (akAV a101 (a, b, c, ())) (bkBs b101 ()) = (d101 a b c).map e101 := by kernel_rfl
def s101' (G : akT a101 → Bool) : FSpec := aspec0 a101 b101 e101 (fun x _ => G x)
theorem k101' {G : akT a101 → Bool} (hd : ∀ (a : Int) (b : Int) (c : Int), (d101 a b c).val = some (G (a, b, c, ()))) (IO : ItOK Tryd.prog (E0) := by exact itOK_none rfl) (L : ∀ c, Tryd.f101.body = some c → LsOK (evI 2) ((E0).lend 0) c := by exact fun c _ => LsOK_none rfl c) : SpecOK Tryd.prog E0 101 (s101' G) :=
  aspec0_ok (ak := a101) (bl := b101) (e := e101) (g := fun x _ => G x) (E0 := E0) (E := E0) tab .nil rfl rfl hm Tryd.func101 (by kernel_rfl) [PM.data Kd.bool] (fun X Y => by obtain ⟨a, ⟨b, ⟨c, _⟩⟩⟩ := X; exact val_of (t101 a b c) (hd a b c)) IO L
abbrev w101 : FSpec := s101' fun x => U.inn x.1 x.2.1 x.2.2.1
theorem wk101 : SpecOK Tryd.prog E0 101 w101 := by
  refine k101' fun a b c => ?_
  show _ = some (U.inn a b c)
  unfold U.inn
  by_cases h : b ≤ a <;> simp [d101, Tr.val, h]
def d152 (a1 : Int) (a2 : Int) (a3 : Int) : Tr (ByteArray × Int × Int × Int × Int) :=
 Tr.ret (ByteArray.empty, (1 : Int), (0 : Int), a2, (0 : Int))
def e152 (r : ByteArray × Int × Int × Int × Int) : FRes := { rs := Slot.av (AV.agg [Leaf.dat Kd.str r.fst, Leaf.dat (.int .i64) r.snd.fst, Leaf.dat (.int .i64) r.snd.snd.fst, Leaf.dat (.int .i64) r.snd.snd.snd.fst, Leaf.dat (.int .i64) r.snd.snd.snd.snd]), upd := [], new := [] }
@[reducible] def a152 : List AK := [AK.d attk]
@[reducible] def b152 : List BK := []
theorem t152 (a1 : Int) (a2 : Int) (a3 : Int) : evFn (E0) Tryd.f152 [PM.data celk] (akAV a152 ((a1, a2, a3, ()), ())) (bkBs b152 ()) = (d152 a1 a2 a3).map e152 := by kernel_rfl
def s152' (G : akT a152 → ByteArray × Int × Int × Int × Int) : FSpec := aspec0 a152 b152 e152 (fun x _ => G x)
theorem k152' {G : akT a152 → ByteArray × Int × Int × Int × Int} (hd : ∀ (a1 : Int) (a2 : Int) (a3 : Int), (d152 a1 a2 a3).val = some (G ((a1, a2, a3, ()), ()))) (IO : ItOK Tryd.prog (E0) := by exact itOK_none rfl) (L : ∀ c, Tryd.f152.body = some c → LsOK (evI 2) ((E0).lend 0) c := by exact fun c _ => LsOK_none rfl c) : SpecOK Tryd.prog E0 152 (s152' G) :=
  aspec0_ok (ak := a152) (bl := b152) (e := e152) (g := fun x _ => G x) (E0 := E0) (E := E0) tab .nil rfl rfl hm Tryd.func152 (by kernel_rfl) [PM.data celk] (fun X Y => by obtain ⟨⟨a1, ⟨a2, ⟨a3, _⟩⟩⟩, _⟩ := X; exact val_of (t152 a1 a2 a3) (hd a1 a2 a3)) IO L
abbrev w152 : FSpec := s152' fun x => (ByteArray.empty, (1 : Int), (0 : Int), x.1.2.1, (0 : Int))
theorem wk152 : SpecOK Tryd.prog E0 152 w152 := k152' fun a b c => rfl
def live151 (key : Nat) : Lv :=
  bif Nat.beq key 7777 then { ls := [], wd := [⟨2, none, .row 76 celk⟩] } else
  { ls := [] }
abbrev w151 : FSpec := bspec [.d (.sl celk)] [] fun x _ => { c := some (decide (List.length (α := Cell) x.1 ≤ 1048576)), rs := .av (.one (.row 0)), new := [.row 76 celk x.1] }
theorem wk151 : SpecOK Tryd.prog E0 151 w151 := by
  refine nspec_ok (k := celk) (E0 := E0) (E := E0.loops live151 fun _ _ => none) (g := fun (xs : List Cell) => { c := some (decide (List.length xs ≤ 1048576)), rs := .av (.one (.row 0)), new := [.row 76 celk xs] }) tab .nil rfl rfl hm Tryd.func151 (by kernel_rfl) [.raw] fun b xs hb hc => ?_
  have hl : xs.length ≤ 1048576 := by
    cases h : decide (xs.length ≤ 1048576) with
    | true => exact of_decide_eq_true h
    | false => exact absurd (by show some (decide (xs.length ≤ 1048576)) = some false; rw [h]) hc
  cases b with
  | true =>
    cases hb rfl
    show (evFn (E0.loops live151 fun _ _ => none) Tryd.f151 [.raw] [.one (.nn true celk [])] []).val = some ⟨.av (.one (.row 0)), [], [.row 76 celk []]⟩
    kernel_rfl
  | false =>
    have e : evFn (E0.loops live151 fun _ _ => none) Tryd.f151 [.raw] [.one (.nn false celk xs)] [] = .ite (decide ((0 + xs.length) * 48 ≤ capLimit)) (.ret ⟨.av (.one (.row 0)), [], [.row 76 celk xs]⟩) .fail := by kernel_rfl
    have h2 : (0 + xs.length) * 48 ≤ capLimit := by unfold capLimit; omega
    rw [e, decide_eq_true h2]
    rfl
namespace R
def d93 (b : Int) (h0 : List Cell) : Tr (Bool × List Cell) :=
 let v1 : Int := ((↑h0.length : Int))
 let v2 : Int := (b + (1 : Int))
 let v3 : Int := (b - (1 : Int))
 Tr.ite (inB b h0.length) (Tr.ite (decide ((h0.getD b.toNat celk.dflt).snd.fst = (2 : Int))) (Tr.ite (decide (IntKind.i64.wrap v2 < v1)) (Tr.ite (inB (IntKind.i64.wrap v2) h0.length) (Tr.ret (decide ((h0.getD (IntKind.i64.wrap v2).toNat celk.dflt).snd.fst = (0 : Int)), h0)) Tr.fail) (Tr.ret (false, h0))) (Tr.ite (decide ((h0.getD b.toNat celk.dflt).snd.fst = (0 : Int))) (Tr.ite (decide ((0 : Int) < b)) (Tr.ite (inB (IntKind.i64.wrap v3) h0.length) (Tr.ret (decide ((h0.getD (IntKind.i64.wrap v3).toNat celk.dflt).snd.fst = (2 : Int)), h0)) Tr.fail) (Tr.ret (false, h0))) (Tr.ret (true, h0)))) Tr.fail
def e93 (r : Bool × List Cell) : FRes := { rs := Slot.av (AV.one (Leaf.dat Kd.bool r.fst)), upd := [Blk.row ( 76) celk r.snd], new := [] }
@[reducible] def a93 : List AK := [AK.c (Leaf.row (0 : Nat)), AK.d (.int .i64)]
@[reducible] def b93 : List BK := [BK.row (76 : TypeId) celk]
theorem t93 (b : Int) (h0 : List Cell) : evFn (E0) Tryd.f93 [PM.data Kd.bool] (akAV a93 (b, ())) (bkBs b93 (h0, ())) = (d93 b h0).map e93 := by kernel_rfl
def s93 (C : akT a93 → bksT b93 → Bool) (G : akT a93 → bksT b93 → Bool × List Cell) : FSpec := aspec a93 b93 e93 (C) (G)
theorem k93 {C : akT a93 → bksT b93 → Bool} {G : akT a93 → bksT b93 → Bool × List Cell} (hd : ∀ (b : Int) (h0 : List Cell), C (b, ()) (h0, ()) = true → (d93 b h0).val = some (G (b, ()) (h0, ()))) (IO : ItOK Tryd.prog (E0) := by exact itOK_none rfl) (L : ∀ c, Tryd.f93.body = some c → LsOK (evI 2) ((E0).lend 1) c := by exact fun c _ => LsOK_none rfl c) : SpecOK Tryd.prog E0 93 (s93 C G) :=
  aspec_ok (ak := a93) (bl := b93) (e := e93) (c := C) (g := G) (E0 := E0) (E := E0) tab .nil rfl rfl hm Tryd.func93 (by kernel_rfl) [PM.data Kd.bool] (fun X Y H => by obtain ⟨b, _⟩ := X; obtain ⟨h0, _⟩ := Y; exact val_of (t93 b h0) (hd b h0 H)) IO L
theorem cwd (l : List Cell) (i : Nat) : (l.getD i celk.dflt).2.1 = U.cw l i := rfl
abbrev w93 : FSpec := s93 (fun x y => decide (0 ≤ (x.1 : Int) ∧ (x.1 : Int) < (List.length (α := Cell) y.1 : Int) ∧ List.length (α := Cell) y.1 ≤ 1048576)) fun x y => (U.whole y.1 x.1.toNat, y.1)
theorem wk93 : SpecOK Tryd.prog E0 93 w93 := by
  refine k93 fun i l H => ?_
  obtain ⟨h0, h1, h2⟩ := of_decide_eq_true H
  dsimp only at h0 h1 h2
  obtain ⟨n, rfl⟩ := Int.eq_ofNat_of_zero_le h0
  show _ = some (U.whole l n, l)
  have hn : n < l.length := Int.ofNat_lt.1 h1
  have w1 : IntKind.i64.wrap ((n : Int) + 1) = ((n + 1 : Nat) : Int) := wrap64_nat (by omega)
  unfold U.whole d93
  simp only [Tr.val, inB_nat hn, cond_true, w1, Int.toNat_natCast, cwd]
  by_cases a : U.cw l n = 2
  · by_cases b : n + 1 < l.length
    · simp [a, b, inB_nat b, show ((n : Int) + 1 < (l.length : Int)) by omega, show inB ((n : Int) + 1) l.length = true from by simpa using inB_nat b, ← cwd]
    · simp [a, b, show ¬ ((n : Int) + 1 < (l.length : Int)) by omega]
  · by_cases b : U.cw l n = 0
    · by_cases c : 0 < n
      · have w2 : IntKind.i64.wrap ((n : Int) - 1) = ((n - 1 : Nat) : Int) := by
          rw [wrap64_id (by omega) (by omega)]
          omega
        simp [a, b, c, w2, inB_nat (show n - 1 < l.length by omega), ← cwd]
      · have : n = 0 := by omega
        subst this
        simp [a, b]
    · simp [a, b]
end R
abbrev G153 : List (Nat × FSpec) := [(151, w151), (93, R.w93), (152, w152)]
theorem AG153 : AllFn Tryd.prog E0 G153 := .cons wk151 (.cons R.wk93 (.cons wk152 .nil))
def live153 (key : Nat) : Lv :=
  bif Nat.beq key 3 then { ls := [1, 2, 10, 11, 12] } else bif Nat.beq key 1003 then { ls := [1, 2] } else
  { ls := [] }
abbrev M153 (ls : Nat → VS → Option (Tr (Ex × VS))) : Env := (E0.withFns G153).loops live153 ls
@[reducible] def p153_0 : LP := { n := 31, sl := [.c (Leaf.ptr ( 0) ( 0)), .c (Leaf.ptr ( 1) ( 0)), .c (Leaf.row ( 2)), .d (.int .i64), .d (.int .i64)], bl := [(0, .box [.c (Leaf.row ( 2)), .d (Kd.bool)]), (1, .box [.c (Leaf.nils), .d (Kd.bool)]), (2, .row 76 (celk))] }
def B153_0 (x3 : Int) (x4 : Int) (h0_1 : Bool) (h1_1 : Bool) (h2 : List Cell) : Tr (p153_0.T ⊕ (Bool × Bool × List Cell)) :=
 let v1 : Int := ((↑h2.length : Int))
 let v2 : Int := (x4 + (1 : Int))
 Tr.ite (decide (x4 < x3)) (Tr.ite (inB x4 h2.length) (Tr.ite (decide ((0 : Int) ≤ x4 ∧ x4 < v1 ∧ h2.length ≤ (1048576 : Nat))) (Tr.ite (!U.whole h2 x4.toNat) (Tr.ite (inB x4 h2.length) (Tr.ret (Sum.inl ((x3, IntKind.i64.wrap v2, ()), (h0_1, ()), (h1_1, ()), h2.set x4.toNat (ByteArray.empty, (1 : Int), ((0 : Int), (h2.getD x4.toNat celk.dflt).snd.snd.fst.snd.fst, (0 : Int), ()), ()), ()))) Tr.fail) (Tr.ret (Sum.inl ((x3, IntKind.i64.wrap v2, ()), (h0_1, ()), (h1_1, ()), h2, ())))) Tr.fail) Tr.fail) (Tr.ret (Sum.inr (h0_1, h1_1, h2)))
def X153_0 (r : (Bool × Bool × List Cell)) : Ex × VS := Prod.mk (Ex.exit ( 0)) { n := 31, v := [Slot.av (AV.one (Leaf.ptr ( 0) ( 0))), Slot.av (AV.one (Leaf.ptr ( 1) ( 0)))], h := [( 0, Blk.box [Leaf.row ( 2), Leaf.dat Kd.bool r.fst]), ( 1, Blk.box [Leaf.nils, Leaf.dat Kd.bool r.snd.fst]), ( 2, Blk.row ( 76) celk r.snd.snd)] }
def b153_0 : p153_0.T → Tr (p153_0.T ⊕ (Bool × Bool × List Cell)) := fun ⟨⟨x3, ⟨x4, _⟩⟩, ⟨⟨h0_1, _⟩, ⟨⟨h1_1, _⟩, ⟨h2, _⟩⟩⟩⟩ => B153_0 x3 x4 h0_1 h1_1 h2
theorem h153_0 (ls : Nat → VS → Option (Tr (Ex × VS))) (x : p153_0.T) : (evC (evI 2) (lc Tryd.f153 0) (Env.lend (M153 ls) 0) (unV (live153 3) (p153_0.V x))).map (decL 0 (live153 3) (live153 1003)) = (b153_0 x).map (encR p153_0.V X153_0) := by
  obtain ⟨⟨x3, ⟨x4, _⟩⟩, ⟨⟨h0_1, _⟩, ⟨⟨h1_1, _⟩, ⟨h2, _⟩⟩⟩⟩ := x; kernel_rfl
theorem c153_0 (x : p153_0.T) : canV 0 (live153 3) (unV (live153 3) (p153_0.V x)) = p153_0.V x := by
  obtain ⟨⟨x3, ⟨x4, _⟩⟩, ⟨⟨h0_1, _⟩, ⟨⟨h1_1, _⟩, ⟨h2, _⟩⟩⟩⟩ := x; kernel_rfl
theorem l153_0 {T : p153_0.T → Tr (Bool × Bool × List Cell)} {ls : Nat → VS → Option (Tr (Ex × VS))} (hls : ∀ x, (Env.lend (M153 ls) 0).ls 3 x = p153_0.ls (fun a => (T a).map X153_0) x) (hS : ∀ x r, (T x).val = some r → Rounds b153_0 x r) : LoopOK (evI 2) (Env.lend (M153 ls) 0) (lc Tryd.f153 0) :=
  loopA 3 (live153 3) (live153 1003) p153_0 b153_0 X153_0 T (by kernel_rfl) rfl rfl hls (h153_0 ls) c153_0 hS
end Go.Proofs.YtdlbnlbajnafdaaDoor
namespace U
def blank (a : Int × Int × Int × Unit) : Cl := (ByteArray.empty, 1, (0, a.2.1, 0, ()), ())
def mendAt (i : Nat) (l : List Cl) : List Cl := if whole l i then l else l.set i (blank (l.getD i dC).2.2.1)
def mend (l : List Cl) : List Cl := (List.range' 0 l.length).foldl (fun l i => mendAt i l) l
theorem mendAt_len (i : Nat) (l : List Cl) : (mendAt i l).length = l.length := by unfold mendAt; split <;> simp
end U
namespace Go.Proofs.YtdlbnlbajnafdaaDoor
def T153 (x : p153_0.T) : Tr (Bool × Bool × List Cell) :=
  .ite (decide ((x.1.1 : Int) = (List.length (α := Cell) x.2.2.2.1 : Int) ∧ (x.1.2.1 : Int) = 0 ∧ List.length (α := Cell) x.2.2.2.1 ≤ 1048576))
    (.ret (x.2.1.1, x.2.2.1.1, U.mend x.2.2.2.1)) .fail
abbrev E153 : Env := M153 fun key x => bif Nat.beq key 3 then p153_0.ls (fun a => (T153 a).map X153_0) x else none
theorem L153 : LoopOK (evI 2) (E153.lend 0) (lc Tryd.f153 0) := by
  refine l153_0 (T := T153) (fun x => rfl) ?_
  rintro ⟨⟨n, i, z⟩, ⟨s, z0⟩, ⟨t, z1⟩, l, z2⟩ r h
  obtain ⟨g1, g2⟩ := pre_val h
  obtain ⟨e1, e2, e3⟩ := of_decide_eq_true g1
  dsimp only at e1 e2 e3 g2
  subst e1; subst e2
  cases g2
  refine Rounds.uptoA (B := b153_0) (σ := List Cell) (N := l.length) (fun i m => (((l.length : Int), (i : Int), ()), (s, ()), (t, ()), m, ())) U.mendAt (fun m => (s, t, m)) (fun _ m => m.length = l.length) (fun i m hi hv => ?_) (fun m hv => ?_) l.length 0 l (by omega) rfl
  · refine ⟨?_, by rw [U.mendAt_len]; exact hv⟩
    have hi' : i < m.length := by omega
    have h1 : (0 : Int) ≤ (i : Int) ∧ (i : Int) < (m.length : Int) ∧ m.length ≤ 1048576 := by omega
    unfold U.mendAt
    cases hw : U.whole m i with
    | true => simp only [b153_0, B153_0, Tr.val, hw, h1, inB_nat hi', Int.toNat_natCast, show ((i : Int) < (l.length : Int)) by omega, decide_true, cond_true, cond_false, Bool.not_true, wrap64_nat (show i ≤ 1048576 by omega), if_true, and_self]
    | false =>
      simp only [b153_0, B153_0, Tr.val, hw, h1, inB_nat hi', Int.toNat_natCast, show ((i : Int) < (l.length : Int)) by omega, decide_true, cond_true, cond_false, Bool.not_false, wrap64_nat (show i ≤ 1048576 by omega), Bool.false_eq_true, if_false, and_self]
      rfl
  · simp only [b153_0, B153_0, Tr.val, show ¬ ((l.length : Int) < (l.length : Int)) by omega, decide_false, cond_false]
def d100 (a1 : List Cell) (a2 : Bool) (h0_0 : Int) (h0_1 : List Line) : Tr (Bool × Int × List Line) :=
 let v1 : Int := ((↑a1.length : Int))
 Tr.ite (U.okc a1) (Tr.ret (!(U.fitC a1 && decide (v1 = h0_0)), h0_0, h0_1)) Tr.fail
def e100 (r : Bool × Int × List Line) : FRes := { rs := Slot.av (AV.one (Leaf.dat Kd.bool r.fst)), upd := [Blk.box [Leaf.dat (.int .i64) r.snd.fst, Leaf.dat link.sl r.snd.snd]], new := [] }
@[reducible] def a100 : List AK := [AK.d link, AK.c (Leaf.ptr (0 : Nat) (0 : Nat))]
@[reducible] def b100 : List BK := [BK.box [SK.d (.int .i64), SK.d link.sl]]
theorem t100 (a1 : List Cell) (a2 : Bool) (h0_0 : Int) (h0_1 : List Line) : evFn (E0.withFns [((39 : Nat), w39)]) Tryd.f100 [PM.data Kd.bool] (akAV a100 ((a1, a2, ()), ())) (bkBs b100 ((h0_0, h0_1, ()), ())) = (d100 a1 a2 h0_0 h0_1).map e100 := by kernel_rfl
def s100 (C : akT a100 → bksT b100 → Bool) (G : akT a100 → bksT b100 → Bool × Int × List Line) : FSpec := aspec a100 b100 e100 (C) (G)
end Go.Proofs.YtdlbnlbajnafdaaDoor
namespace U
def misfit (n : Int) (y : Ln) : Bool := !(fitC y.1 && decide ((y.1.length : Int) = n))
end U
namespace Go.Proofs.YtdlbnlbajnafdaaDoor
abbrev w100 : FSpec := s100 (fun x _ => U.okc x.1.1) fun x y => (U.misfit y.1.1 x.1, y.1.1, y.1.2.1)
namespace GR
def live102 (key : Nat) : Lv :=
  bif Nat.beq key 2 then { ls := [0, 1, 7, 8] } else bif Nat.beq key 1002 then { ls := [4] } else
  { ls := [] }
abbrev M102 (ls : Nat → VS → Option (Tr (Ex × VS))) : Env := (E0.withFns [(100, w100)]).loops live102 ls
@[reducible] def p102_0 : LP := { n := 19, sl := [.d (link.sl), .c (Leaf.fn ( 100) [0]), .d (.int .i64), .d (.int .i64)], bl := [(0, .box [.d (.int .i64), .d (link.sl)])] }
def B102_0 (x0 : List Line) (x2 : Int) (x3 : Int) (h0_0 : Int) (h0_1 : List Line) : Tr (p102_0.T ⊕ (Int × Int × List Line ⊕ Int × List Line)) :=
 Tr.ite (decide (x3 < x2)) (Tr.ite (inB x3 x0.length) (Tr.ite (U.okc (rget link x0 x3).fst) (Tr.ite (U.misfit h0_0 (rget link x0 x3)) (Tr.ret (Sum.inr (Sum.inl (x3, h0_0, h0_1)))) (Tr.ret (Sum.inl ((x0, x2, IntKind.i64.wrap (x3 + (1 : Int)), ()), (h0_0, h0_1, ()), ())))) Tr.fail) Tr.fail) (Tr.ret (Sum.inr (Sum.inr (h0_0, h0_1))))
def X102_0 : (Int × Int × List Line ⊕ Int × List Line) → Ex × VS
  | (.inl r) => Prod.mk Ex.ret { n := 19, v := [Slot.av (AV.one (Leaf.dat (.int .i64) r.fst))], h := [( 0, Blk.box [Leaf.dat (.int .i64) r.snd.fst, Leaf.dat link.sl r.snd.snd])] }
  | (.inr r) => Prod.mk (Ex.exit ( 0)) { n := 19, v := [Slot.av (AV.one Leaf.undef)], h := [( 0, Blk.box [Leaf.dat (.int .i64) r.fst, Leaf.dat link.sl r.snd])] }
def b102_0 : p102_0.T → Tr (p102_0.T ⊕ (Int × Int × List Line ⊕ Int × List Line)) := fun ⟨⟨x0, ⟨x2, ⟨x3, _⟩⟩⟩, ⟨⟨h0_0, ⟨h0_1, _⟩⟩, _⟩⟩ => B102_0 x0 x2 x3 h0_0 h0_1
theorem h102_0 (ls : Nat → VS → Option (Tr (Ex × VS))) (x : p102_0.T) : (evC (evI 2) (lc Tryd.f102 0) (Env.lend (M102 ls) 1) (unV (live102 2) (p102_0.V x))).map (decL 1 (live102 2) (live102 1002)) = (b102_0 x).map (encR p102_0.V X102_0) := by
  obtain ⟨⟨x0, ⟨x2, ⟨x3, _⟩⟩⟩, ⟨⟨h0_0, ⟨h0_1, _⟩⟩, _⟩⟩ := x; kernel_rfl
theorem c102_0 (x : p102_0.T) : canV 1 (live102 2) (unV (live102 2) (p102_0.V x)) = p102_0.V x := by
  obtain ⟨⟨x0, ⟨x2, ⟨x3, _⟩⟩⟩, ⟨⟨h0_0, ⟨h0_1, _⟩⟩, _⟩⟩ := x; kernel_rfl
theorem l102_0 {T : p102_0.T → Tr (Int × Int × List Line ⊕ Int × List Line)} {ls : Nat → VS → Option (Tr (Ex × VS))} (hls : ∀ x, (Env.lend (M102 ls) 1).ls 2 x = p102_0.ls (fun a => (T a).map X102_0) x) (hS : ∀ x r, (T x).val = some r → Rounds b102_0 x r) : LoopOK (evI 2) (Env.lend (M102 ls) 1) (lc Tryd.f102 0) :=
  loopA 2 (live102 2) (live102 1002) p102_0 b102_0 X102_0 T (by kernel_rfl) rfl rfl hls (h102_0 ls) c102_0 hS
def T102 (x : p102_0.T) : Tr (Int × Int × List Line ⊕ Int × List Line) :=
  .ite (decide ((x.1.2.1 : Int) = (List.length (α := Line) x.1.1 : Int) ∧ (x.1.2.2.1 : Int) = 0) && U.okl x.1.1)
    (.ite (findN (fun i => U.misfit x.2.1.1 (List.getD (α := Line) x.1.1 i U.dL)) (List.length (α := Line) x.1.1) 0).isSome (.ret (.inl ((((findN (fun i => U.misfit x.2.1.1 (List.getD (α := Line) x.1.1 i U.dL)) (List.length (α := Line) x.1.1) 0).getD 0 : Nat) : Int), x.2.1.1, x.2.1.2.1))) (.ret (.inr (x.2.1.1, x.2.1.2.1)))) .fail
abbrev E102 : Env := M102 fun key x => bif Nat.beq key 2 then p102_0.ls (fun a => (T102 a).map X102_0) x else none
theorem L102 : LoopOK (evI 2) (E102.lend 1) (lc Tryd.f102 0) := by
  refine l102_0 (T := T102) (fun x => rfl) ?_
  rintro ⟨⟨l, n, i, z⟩, ⟨c, g, z1⟩, z2⟩ r h
  obtain ⟨h1, h2⟩ := pre_val h
  rw [Bool.and_eq_true] at h1
  obtain ⟨h1, hok⟩ := h1
  obtain ⟨e1, e2⟩ := of_decide_eq_true h1
  dsimp only at e1 e2 hok h2
  subst e1
  subst e2
  have hl := U.okl_len hok
  have := Rounds.find (B := b102_0) (N := l.length) (fun i => ((l, (l.length : Int), (i : Int), ()), (c, g, ()), ())) (fun i => U.misfit c (l.getD i U.dL)) (fun i => .inl ((i : Int), c, g)) (.inr (c, g)) (fun i hi => ?_) ?_
  · cases hf : findN (fun i => U.misfit c (l.getD i U.dL)) l.length 0 <;> simp only [hf, Tr.val, Option.isSome_none, Option.isSome_some, Option.getD_some, cond_true, cond_false, outN] at h2 this <;> cases h2 <;> exact this
  · have h3 := U.okl_at hok hi
    simp only [b102_0, B102_0, Tr.val, inB_nat hi, rgetL, h3, show ((i : Int) < (l.length : Int)) by omega, decide_true, cond_true, wrap64_nat (show i ≤ 1048576 by omega)]
    cases U.misfit c (l.getD i U.dL) <;> rfl
  · simp only [b102_0, B102_0, Tr.val, show ¬ ((l.length : Int) < (l.length : Int)) by omega, decide_false, cond_false]
def d102 (a : List Line) (h0_0 : Int) (h0_1 : List Line) : Tr (Int × Int × List Line) :=
 let v1 : Int := ((↑a.length : Int))
 let v2 : Int := ((↑a.length : Int))
 Tr.ite (decide (v2 = v1 ∧ (0 : Int) = (0 : Int)) && U.okl a) (Tr.ite (findN (fun (i : Nat) => U.misfit h0_0 (a.getD i U.dL)) a.length (0 : Nat)).isSome (Tr.ret ((↑((findN (fun (i : Nat) => U.misfit h0_0 (a.getD i U.dL)) a.length (0 : Nat)).getD (0 : Nat)) : Int), h0_0, h0_1)) (Tr.ret ((-1 : Int), h0_0, h0_1))) Tr.fail
def e102 (r : Int × Int × List Line) : FRes := { rs := Slot.av (AV.one (Leaf.dat (.int .i64) r.fst)), upd := [Blk.box [Leaf.dat (.int .i64) r.snd.fst, Leaf.dat link.sl r.snd.snd]], new := [] }
@[reducible] def a102 : List AK := [AK.d link.sl, AK.c (Leaf.fn (100 : FuncId) [(0 : Nat)])]
@[reducible] def b102 : List BK := [BK.box [SK.d (.int .i64), SK.d link.sl]]
theorem t102 (a : List Line) (h0_0 : Int) (h0_1 : List Line) : evFn (E102) Tryd.f102 [PM.data (.int .i64)] (akAV a102 (a, ())) (bkBs b102 ((h0_0, h0_1, ()), ())) = (d102 a h0_0 h0_1).map e102 := by kernel_rfl
def s102 (C : akT a102 → bksT b102 → Bool) (G : akT a102 → bksT b102 → Int × Int × List Line) : FSpec := aspec a102 b102 e102 (C) (G)
abbrev w102 : FSpec := s102 (fun x _ => U.okl x.1) fun x y => (optI' (findN (fun i => U.misfit y.1.1 (List.getD (α := Line) x.1 i U.dL)) (List.length (α := Line) x.1) 0), y.1.1, y.1.2.1)
def d44 (a : List Line) (h0_0 : Int) (h0_1 : List Line) : Tr (Bool × Int × List Line) :=
 let v1 : Int := (optI' (findN (fun (i : Nat) => U.misfit h0_0 (a.getD i U.dL)) a.length (0 : Nat)))
 Tr.ite (U.okl a) (Tr.ret (decide ((0 : Int) ≤ v1), h0_0, h0_1)) Tr.fail
def e44 (r : Bool × Int × List Line) : FRes := { rs := Slot.av (AV.one (Leaf.dat Kd.bool r.fst)), upd := [Blk.box [Leaf.dat (.int .i64) r.snd.fst, Leaf.dat link.sl r.snd.snd]], new := [] }
@[reducible] def a44 : List AK := [AK.d link.sl, AK.c (Leaf.fn (100 : FuncId) [(0 : Nat)])]
@[reducible] def b44 : List BK := [BK.box [SK.d (.int .i64), SK.d link.sl]]
theorem t44 (a : List Line) (h0_0 : Int) (h0_1 : List Line) : evFn (E0.withFns [((102 : Nat), w102)]) Tryd.f44 [PM.data Kd.bool] (akAV a44 (a, ())) (bkBs b44 ((h0_0, h0_1, ()), ())) = (d44 a h0_0 h0_1).map e44 := by kernel_rfl
def s44 (C : akT a44 → bksT b44 → Bool) (G : akT a44 → bksT b44 → Bool × Int × List Line) : FSpec := aspec a44 b44 e44 (C) (G)
abbrev w44 : FSpec := s44 (fun x _ => U.okl x.1) fun x y => (List.any (α := Line) x.1 (U.misfit y.1.1), y.1.1, y.1.2.1)
end GR
abbrev G43 : List (Nat × FSpec) := [(101, w101), (44, GR.w44)]
abbrev gridk : Kd := .pr (.int .i64) (.pr (.sl link) .un)
def d43 (a1 : Int) (a2 : List Line) : Tr (Bool) :=
 Tr.ite (U.inn a1 (1 : Int) (80 : Int)) (Tr.ite (U.inn (↑a2.length : Int) (1 : Int) (50 : Int)) (Tr.ite (U.okl a2) (Tr.ret !a2.any (U.misfit a1)) Tr.fail) (Tr.ret false)) (Tr.ret false)
def e43 (r : Bool) : FRes := { rs := Slot.av (AV.one (Leaf.dat Kd.bool r)), upd := [], new := [] }
@[reducible] def a43 : List AK := [AK.d gridk]
@[reducible] def b43 : List BK := []
theorem t43 (a1 : Int) (a2 : List Line) : evFn (E0.withFns G43) Tryd.f43 [PM.data Kd.bool] (akAV a43 ((a1, a2, ()), ())) (bkBs b43 ()) = (d43 a1 a2).map e43 := by kernel_rfl
def s43 (C : akT a43 → Bool) (G : akT a43 → Bool) : FSpec := aspec a43 b43 e43 (fun x _ => C x) (fun x _ => G x)
end Go.Proofs.YtdlbnlbajnafdaaDoor
namespace U
def gridR (c : Int) (l : List Ln) : Bool := inn c 1 80 && (inn (l.length : Int) 1 50 && !l.any (misfit c))
end U
namespace Go.Proofs.YtdlbnlbajnafdaaDoor
abbrev w43 : FSpec := s43 (fun x => U.okl x.1.2.1) fun x => U.gridR x.1.1 x.1.2.1
end Go.Proofs.YtdlbnlbajnafdaaDoor
end
section
set_option linter.unusedVariables false
set_option linter.unusedSimpArgs false
set_option maxRecDepth 20000
open Go Go.Ev
namespace U
theorem mendAt_eq {i : Nat} {l : List Cl} (h : whole l i = true) : mendAt i l = l := by unfold mendAt; rw [if_pos h]
theorem cw_set {l : List Cl} {i j : Nat} {c : Cl} (hi : i < l.length) : cw (l.set i c) j = if j = i then c.2.1 else cw l j := by
  unfold cw
  rw [List.getD_eq_getElem?_getD, List.getD_eq_getElem?_getD, List.getElem?_set]
  by_cases h : i = j
  · subst h
    rw [if_pos rfl, if_pos hi, if_pos rfl]
    rfl
  · rw [if_neg h, if_neg (fun e => h e.symm)]
theorem mend_step {l : List Cl} {i : Nat} (hi : i < l.length) (h : ∀ j, j < i → whole l j = true) : ∀ j, j < i + 1 → whole (mendAt i l) j = true := by
  intro j hj
  cases hw : whole l i with
  | true =>
    rw [mendAt_eq hw]
    by_cases e : j = i
    · rw [e]; exact hw
    · exact h j (by omega)
  | false =>
    unfold mendAt
    rw [hw, if_neg (by decide)]
    have hl : (l.set i (blank (l.getD i dC).2.2.1)).length = l.length := by simp
    have hb : (blank (l.getD i dC).2.2.1).2.1 = 1 := rfl
    have key : ∀ k, cw (l.set i (blank (l.getD i dC).2.2.1)) k = if k = i then 1 else cw l k := fun k => by rw [cw_set hi, hb]
    generalize l.set i (blank (l.getD i dC).2.2.1) = m at *
    by_cases e : j = i
    · subst e
      unfold whole
      rw [key, if_pos rfl]
      simp
    · have hj' : j < i := by omega
      have h1 := h j hj'
      unfold whole at h1 ⊢
      unfold whole at hw
      rw [key, key, key, if_neg e, hl]
      by_cases c2 : cw l j = 2
      · rw [if_pos c2] at h1 ⊢
        by_cases e2 : j + 1 = i
        · exfalso
          subst e2
          simp only [Bool.and_eq_true, decide_eq_true_eq] at h1
          rw [if_neg (by omega), if_pos h1.2] at hw
          simp [c2] at hw
        · rw [if_neg e2]; exact h1
      · rw [if_neg c2] at h1 ⊢
        by_cases c0 : cw l j = 0
        · rw [if_pos c0] at h1 ⊢
          have : ¬ j - 1 = i := by omega
          rw [if_neg this]
          exact h1
        · rw [if_neg c0]
theorem mend_fold (N : Nat) : ∀ (k i : Nat) (l : List Cl), i + k = N → l.length = N → (∀ j, j < i → whole l j = true) →
    ((List.range' i k).foldl (fun l i => mendAt i l) l).length = N ∧ ∀ j, j < N → whole ((List.range' i k).foldl (fun l i => mendAt i l) l) j = true
  | 0, i, l, h1, h2, h3 => ⟨h2, fun j hj => h3 j (by omega)⟩
  | k + 1, i, l, h1, h2, h3 => by
    rw [List.range'_succ, List.foldl_cons]
    exact mend_fold N k (i + 1) (mendAt i l) (by omega) (by rw [mendAt_len]; exact h2) (mend_step (by omega) h3)
theorem mend_len (l : List Cl) : (mend l).length = l.length := (mend_fold l.length l.length 0 l (by omega) rfl (fun j h => absurd h (Nat.not_lt_zero j))).1
theorem mend_whole (l : List Cl) : ∀ j, j < (mend l).length → whole (mend l) j = true := by
  rw [mend_len]
  exact (mend_fold l.length l.length 0 l (by omega) rfl (fun j h => absurd h (Nat.not_lt_zero j))).2
end U
namespace U
theorem fitC_iff {l : List Cl} : fitC l = true ↔ (∀ c ∈ l, cellR c = true) ∧ ∀ j, j < l.length → whole l j = true := by
  unfold fitC
  rw [all0]
  constructor
  · intro h
    refine ⟨fun c hc => ?_, fun j hj => ?_⟩
    · obtain ⟨i, hi, rfl⟩ := List.getElem_of_mem hc
      have := h i hi
      rw [Bool.and_eq_true, getD_el hi] at this
      exact this.1
    · have := h j hj
      rw [Bool.and_eq_true] at this
      exact this.2
  · rintro ⟨a, b⟩ j hj
    rw [Bool.and_eq_true, getD_el hj]
    exact ⟨a _ (List.getElem_mem hj), b j hj⟩
end U
end
section
set_option linter.unusedVariables false
set_option linter.unusedSimpArgs false
set_option maxRecDepth 20000
open Go Go.Ev
namespace Go.Proofs.YtdlbnlbajnafdaaDoor
open Go.RowKit
def d107 (a1 : Int) (a2 : Int) (a3 : Int) : Tr (ByteArray × Int × Int × Int × Int) :=
 Tr.ret (ByteArray.empty, (1 : Int), (0 : Int), a2, (0 : Int))
def e107 (r : ByteArray × Int × Int × Int × Int) : FRes := { rs := Slot.av (AV.agg [Leaf.dat Kd.str r.fst, Leaf.dat (.int .i64) r.snd.fst, Leaf.dat (.int .i64) r.snd.snd.fst, Leaf.dat (.int .i64) r.snd.snd.snd.fst, Leaf.dat (.int .i64) r.snd.snd.snd.snd]), upd := [], new := [] }
@[reducible] def a107 : List AK := [AK.d attk]
@[reducible] def b107 : List BK := []
theorem t107 (a1 : Int) (a2 : Int) (a3 : Int) : evFn (E0) Tryd.f107 [PM.data celk] (akAV a107 ((a1, a2, a3, ()), ())) (bkBs b107 ()) = (d107 a1 a2 a3).map e107 := by kernel_rfl
def s107' (G : akT a107 → ByteArray × Int × Int × Int × Int) : FSpec := aspec0 a107 b107 e107 (fun x _ => G x)
theorem k107' {G : akT a107 → ByteArray × Int × Int × Int × Int} (hd : ∀ (a1 : Int) (a2 : Int) (a3 : Int), (d107 a1 a2 a3).val = some (G ((a1, a2, a3, ()), ()))) (IO : ItOK Tryd.prog (E0) := by exact itOK_none rfl) (L : ∀ c, Tryd.f107.body = some c → LsOK (evI 2) ((E0).lend 0) c := by exact fun c _ => LsOK_none rfl c) : SpecOK Tryd.prog E0 107 (s107' G) :=
  aspec0_ok (ak := a107) (bl := b107) (e := e107) (g := fun x _ => G x) (E0 := E0) (E := E0) tab .nil rfl rfl hm Tryd.func107 (by kernel_rfl) [PM.data celk] (fun X Y => by obtain ⟨⟨a1, ⟨a2, ⟨a3, _⟩⟩⟩, _⟩ := X; exact val_of (t107 a1 a2 a3) (hd a1 a2 a3)) IO L
abbrev w107 : FSpec := s107' fun x => (ByteArray.empty, (1 : Int), (0 : Int), x.1.2.1, (0 : Int))
theorem wk107 : SpecOK Tryd.prog E0 107 w107 := k107' fun a b c => rfl
abbrev G105 : List (Nat × FSpec) := [(104, w104), (107, w107)]
theorem AG105 : AllFn Tryd.prog E0 G105 := .cons wk104 (.cons wk107 .nil)
def live105 (key : Nat) : Lv :=
  bif Nat.beq key 3 then { ls := [1, 2, 3, 9, 10, 11] } else bif Nat.beq key 1003 then { ls := [1, 2, 3] } else
  { ls := [] }
abbrev M105 (ls : Nat → VS → Option (Tr (Ex × VS))) : Env := (E0.withFns G105).loops live105 ls
@[reducible] def p105_0 : LP := { n := 41, sl := [.c (Leaf.ptr ( 0) ( 0)), .c (Leaf.ptr ( 1) ( 0)), .c (Leaf.row ( 2)), .d (celk.sl), .d (.int .i64), .d (.int .i64)], bl := [(0, .box [.d (celk.sl), .d (Kd.bool)]), (1, .box [.c (Leaf.nils), .d (Kd.bool)]), (2, .row 76 (celk))] }
def B105_0 (x3 : List Cell) (x4 : Int) (x5 : Int) (h0_0 : List Cell) (h0_1 : Bool) (h1_1 : Bool) (h2 : List Cell) : Tr (p105_0.T ⊕ (List Cell × Bool × Bool × List Cell)) :=
 let v1 : Int := ((↑h0_0.length : Int))
 let v2 : List Cell := (sub h0_0 x5.toNat h0_0.length)
 let v3 : Int := (x5 + (1 : Int))
 let v4 : Int := ((↑(List.length (h2 ++ v2)) : Int))
 Tr.ite (decide (x5 < x4)) (Tr.ite (inB x5 x3.length) (Tr.ite (decide (((0 : Nat) + h2.length) * (48 : Nat) ≤ (140737488355328 : Nat))) (Tr.ite (decide ((0 : Int) ≤ x5 ∧ x5 ≤ v1)) (Tr.ite (decide ((h2.length + v2.length) * (48 : Nat) ≤ (140737488355328 : Nat))) (Tr.ite (decide ((0 : Int) ≤ x5 ∧ x5 < v4 ∧ List.length (h2 ++ v2) ≤ (1048576 : Nat))) (Tr.ite (!U.whole (h2 ++ v2) x5.toNat) (Tr.ite (decide ((h2.length + (1 : Nat)) * (48 : Nat) ≤ (140737488355328 : Nat))) (Tr.ret (Sum.inl ((x3, x4, IntKind.i64.wrap v3, ()), (h0_0, h0_1, ()), (h1_1, ()), h2 ++ [(ByteArray.empty, (1 : Int), ((0 : Int), (rget celk x3 x5).snd.snd.fst.snd.fst, (0 : Int), ()), ())], ()))) Tr.fail) (Tr.ite (decide ((h2.length + (1 : Nat)) * (48 : Nat) ≤ (140737488355328 : Nat))) (Tr.ret (Sum.inl ((x3, x4, IntKind.i64.wrap v3, ()), (h0_0, h0_1, ()), (h1_1, ()), h2 ++ [rget celk x3 x5], ()))) Tr.fail)) Tr.fail) Tr.fail) Tr.fail) Tr.fail) Tr.fail) (Tr.ret (Sum.inr (h0_0, h0_1, h1_1, h2)))
def X105_0 (r : (List Cell × Bool × Bool × List Cell)) : Ex × VS := Prod.mk (Ex.exit ( 0)) { n := 41, v := [Slot.av (AV.one (Leaf.ptr ( 0) ( 0))), Slot.av (AV.one (Leaf.ptr ( 1) ( 0))), Slot.av (AV.one (Leaf.row ( 2)))], h := [( 0, Blk.box [Leaf.dat celk.sl r.fst, Leaf.dat Kd.bool r.snd.fst]), ( 1, Blk.box [Leaf.nils, Leaf.dat Kd.bool r.snd.snd.fst]), ( 2, Blk.row ( 76) celk r.snd.snd.snd)] }
def b105_0 : p105_0.T → Tr (p105_0.T ⊕ (List Cell × Bool × Bool × List Cell)) := fun ⟨⟨x3, ⟨x4, ⟨x5, _⟩⟩⟩, ⟨⟨h0_0, ⟨h0_1, _⟩⟩, ⟨⟨h1_1, _⟩, ⟨h2, _⟩⟩⟩⟩ => B105_0 x3 x4 x5 h0_0 h0_1 h1_1 h2
theorem h105_0 (ls : Nat → VS → Option (Tr (Ex × VS))) (x : p105_0.T) : (evC (evI 2) (lc Tryd.f105 0) (Env.lend (M105 ls) 0) (unV (live105 3) (p105_0.V x))).map (decL 0 (live105 3) (live105 1003)) = (b105_0 x).map (encR p105_0.V X105_0) := by
  obtain ⟨⟨x3, ⟨x4, ⟨x5, _⟩⟩⟩, ⟨⟨h0_0, ⟨h0_1, _⟩⟩, ⟨⟨h1_1, _⟩, ⟨h2, _⟩⟩⟩⟩ := x; kernel_rfl
theorem c105_0 (x : p105_0.T) : canV 0 (live105 3) (unV (live105 3) (p105_0.V x)) = p105_0.V x := by
  obtain ⟨⟨x3, ⟨x4, ⟨x5, _⟩⟩⟩, ⟨⟨h0_0, ⟨h0_1, _⟩⟩, ⟨⟨h1_1, _⟩, ⟨h2, _⟩⟩⟩⟩ := x; kernel_rfl
theorem l105_0 {T : p105_0.T → Tr (List Cell × Bool × Bool × List Cell)} {ls : Nat → VS → Option (Tr (Ex × VS))} (hls : ∀ x, (Env.lend (M105 ls) 0).ls 3 x = p105_0.ls (fun a => (T a).map X105_0) x) (hS : ∀ x r, (T x).val = some r → Rounds b105_0 x r) : LoopOK (evI 2) (Env.lend (M105 ls) 0) (lc Tryd.f105 0) :=
  loopA 3 (live105 3) (live105 1003) p105_0 b105_0 X105_0 T (by kernel_rfl) rfl rfl hls (h105_0 ls) c105_0 hS
def T105 (x : p105_0.T) : Tr (List Cell × Bool × Bool × List Cell) :=
  .ite (decide ((x.1.2.1 : Int) = (List.length (α := Cell) x.1.1 : Int) ∧ (x.1.2.2.1 : Int) = 0 ∧ List.length (α := Cell) x.1.1 ≤ 1048576 ∧ List.length (α := Cell) x.2.2.2.1 = 0) && U.eqL (x.1.1, false, ()) (x.2.1.1, false, ()))
    (.ret (x.2.1.1, x.2.1.2.1, x.2.2.1.1, U.mend x.1.1)) .fail
abbrev E105 : Env := M105 fun key x => bif Nat.beq key 3 then p105_0.ls (fun a => (T105 a).map X105_0) x else none
theorem take_mend {m : List U.Cl} {i : Nat} (hi : i < m.length) : (U.mendAt i m).take (i + 1) = m.take i ++ [if U.whole m i then m.getD i U.dC else U.blank (m.getD i U.dC).2.2.1] ∧ (U.mendAt i m).drop (i + 1) = m.drop (i + 1) := by
  unfold U.mendAt
  split
  · refine ⟨?_, rfl⟩
    rw [List.take_add_one, getD_el hi, List.getElem?_eq_getElem hi]
    rfl
  · refine ⟨?_, by rw [List.drop_set_of_lt (by omega)]⟩
    rw [List.take_add_one, List.take_set_of_le (Nat.le_refl i), List.getElem?_set, if_pos rfl, if_pos hi]
    rfl
theorem L105 : LoopOK (evI 2) (E105.lend 0) (lc Tryd.f105 0) := by
  refine l105_0 (T := T105) (fun x => rfl) ?_
  rintro ⟨⟨l, n, i, z⟩, ⟨l', s, z0⟩, ⟨t, z1⟩, o, z2⟩ r h
  obtain ⟨g1, g2⟩ := pre_val h
  rw [Bool.and_eq_true] at g1
  obtain ⟨g1, g3⟩ := g1
  have g1 : (n : Int) = (l.length : Int) ∧ (i : Int) = 0 ∧ l.length ≤ 1048576 ∧ o.length = 0 := of_decide_eq_true g1
  have hll : l = l' := by
    have := U.eqL_iff.1 g3
    cases this
    rfl
  clear g3
  obtain ⟨rfl, rfl, e3, e5⟩ := g1
  subst hll
  have e5 : o = [] := List.eq_nil_of_length_eq_zero e5
  subst e5
  cases g2
  have := Rounds.uptoA (B := b105_0) (σ := List Cell) (N := l.length) (fun i m => ((l, (l.length : Int), (i : Int), ()), (l, s, ()), (t, ()), m.take i, ())) U.mendAt (fun m => (l, s, t, m)) (fun i m => m.length = l.length ∧ m.drop i = l.drop i) (fun i m hi hv => ?_) (fun m hv => ?_) l.length 0 l (by omega) ⟨rfl, rfl⟩
  · exact this
  · obtain ⟨v1, v2⟩ := hv
    have hi' : i < m.length := by omega
    obtain ⟨t1, t2⟩ := take_mend hi'
    have e6 : m.take i ++ sub l i l.length = m := by
      unfold sub
      rw [List.take_length, ← v2, List.take_append_drop]
    have e7 : l.getD i U.dC = m.getD i U.dC := by
      have h1 := congrArg (fun q : List Cell => q[0]?) v2
      simp only [List.getElem?_drop, Nat.add_zero] at h1
      rw [List.getD_eq_getElem?_getD, List.getD_eq_getElem?_getD, h1]
    have lt : (m.take i).length = i := by rw [List.length_take]; omega
    have ls : (sub l i l.length).length = l.length - i := by unfold sub; rw [List.take_length, List.length_drop]
    have f1 : (0 + i) * 48 ≤ 140737488355328 := by omega
    have f2 : (i + (l.length - i)) * 48 ≤ 140737488355328 := by omega
    have f3 : (i + 1) * 48 ≤ 140737488355328 := by omega
    have f4 : (0 : Int) ≤ (i : Int) ∧ (i : Int) ≤ (l.length : Int) := by omega
    have f5 : (0 : Int) ≤ (i : Int) ∧ (i : Int) < (m.length : Int) ∧ m.length ≤ 1048576 := by omega
    refine ⟨?_, by rw [U.mendAt_len]; exact v1, by rw [t2, ← List.drop_drop, v2, List.drop_drop]⟩
    rw [t1]
    cases hw : U.whole m i with
    | true => simp only [b105_0, B105_0, Tr.val, inB_nat hi, lt, ls, e6, f1, f2, f3, f4, f5, hw, Int.toNat_natCast, rgetC, e7, show ((i : Int) < (l.length : Int)) by omega, and_self, decide_true, cond_true, cond_false, Bool.not_true, if_true, wrap64_nat (show i ≤ 1048576 by omega)]
    | false =>
      simp only [b105_0, B105_0, Tr.val, inB_nat hi, lt, ls, e6, f1, f2, f3, f4, f5, hw, Int.toNat_natCast, rgetC, e7, show ((i : Int) < (l.length : Int)) by omega, and_self, decide_true, cond_true, cond_false, Bool.not_false, Bool.false_eq_true, if_false, wrap64_nat (show i ≤ 1048576 by omega)]
      rfl
  · obtain ⟨v1, v2⟩ := hv
    simp only [b105_0, B105_0, Tr.val, show ¬ ((l.length : Int) < (l.length : Int)) by omega, decide_false, cond_false]
    rw [List.take_of_length_le (by omega)]
def d105 (a1 : List Cell) (a2 : Bool) : Tr (List U.Cl × Bool) :=
 let v1 : Int := ((↑a1.length : Int))
 let v2 : Int := ((↑a1.length : Int))
 Tr.ite (decide (v2 = v1 ∧ (0 : Int) = (0 : Int) ∧ a1.length ≤ (1048576 : Nat) ∧ (0 : Nat) = (0 : Nat)) && U.eqL (a1, false, ()) (a1, false, ())) (Tr.ret (U.mend a1, a2)) Tr.fail
def e105 (r : List U.Cl × Bool) : FRes := { rs := Slot.av (AV.agg [Leaf.dat celk.sl r.fst, Leaf.dat Kd.bool r.snd]), upd := [], new := [] }
@[reducible] def a105 : List AK := [AK.d link]
@[reducible] def b105 : List BK := []
theorem t105 (a1 : List Cell) (a2 : Bool) : evFn (E105) Tryd.f105 [PM.data link] (akAV a105 ((a1, a2, ()), ())) (bkBs b105 ()) = (d105 a1 a2).map e105 := by kernel_rfl
def s105 (C : akT a105 → Bool) (G : akT a105 → List U.Cl × Bool) : FSpec := aspec a105 b105 e105 (fun x _ => C x) (fun x _ => G x)
theorem k105 {C : akT a105 → Bool} {G : akT a105 → List U.Cl × Bool} (hd : ∀ (a1 : List Cell) (a2 : Bool), C ((a1, a2, ()), ()) = true → (d105 a1 a2).val = some (G ((a1, a2, ()), ()))) (IO : ItOK Tryd.prog (E105) := by exact itOK_none rfl) (L : ∀ c, Tryd.f105.body = some c → LsOK (evI 2) ((E105).lend 0) c := by exact fun c _ => LsOK_none rfl c) : SpecOK Tryd.prog E0 105 (s105 C G) :=
  aspec_ok (ak := a105) (bl := b105) (e := e105) (c := fun x _ => C x) (g := fun x _ => G x) (E0 := E0) (E := E105) tab AG105 rfl rfl hm Tryd.func105 (by kernel_rfl) [PM.data link] (fun X Y H => by obtain ⟨⟨a1, ⟨a2, _⟩⟩, _⟩ := X; exact val_of (t105 a1 a2) (hd a1 a2 H)) IO L
abbrev w105 : FSpec := s105 (fun x => decide (List.length (α := Cell) x.1.1 ≤ 1048576)) fun x => (U.mend x.1.1, x.1.2.1)
theorem wk105 : SpecOK Tryd.prog E0 105 w105 := by
  refine k105 (fun l s H => ?_) (L := ls_ok (lcs := [lc Tryd.f105 0]) (rgs := []) (by kernel_rfl) (by kernel_rfl) L105 trivial)
  have hl : l.length ≤ 1048576 := of_decide_eq_true H
  show _ = some (U.mend l, s)
  simp only [d105, Tr.val, hl, U.eqL_refl, decide_true, and_self, cond_true, List.length_nil, Bool.and_self]
def live45 (key : Nat) : Lv :=
  bif Nat.beq key 2 then { ls := [1, 6, 7, 8] } else bif Nat.beq key 1002 then { ls := [1, 2] } else
  { ls := [] }
abbrev M45 (ls : Nat → VS → Option (Tr (Ex × VS))) : Env := (E0.withFns [(46, w46)]).loops live45 ls
@[reducible] def p45_0 : LP := { n := 38, sl := [.c (Leaf.ptr ( 0) ( 0)), .d (link.sl), .d (.int .i64), .d (.int .i64)], bl := [(0, .box [.d (.int .i64), .d (link.sl)])] }
def B45_0 (x1 : List Line) (x2 : Int) (x3 : Int) (h0_0 : Int) (h0_1 : List Line) : Tr (p45_0.T ⊕ (Int × List Line ⊕ Int × List Line)) :=
 let v1 : Int := ((↑(List.length (rget link x1 x3).fst) : Int))
 Tr.ite (decide (x3 < x2)) (Tr.ite (inB x3 x1.length) (Tr.ite (U.okc (rget link x1 x3).fst) (Tr.ite (!(U.fitC (rget link x1 x3).fst && decide (v1 = h0_0))) (Tr.ret (Sum.inr (Sum.inl (h0_0, h0_1)))) (Tr.ret (Sum.inl ((x1, x2, IntKind.i64.wrap (x3 + (1 : Int)), ()), (h0_0, h0_1, ()), ())))) Tr.fail) Tr.fail) (Tr.ret (Sum.inr (Sum.inr (h0_0, h0_1))))
def X45_0 : (Int × List Line ⊕ Int × List Line) → Ex × VS
  | (.inl r) => Prod.mk Ex.ret { n := 38, v := [Slot.av (AV.one (Leaf.ptr ( 0) ( 0))), Slot.av (AV.one (Leaf.kb false))], h := [( 0, Blk.box [Leaf.dat (.int .i64) r.fst, Leaf.dat link.sl r.snd])] }
  | (.inr r) => Prod.mk (Ex.exit ( 0)) { n := 38, v := [Slot.av (AV.one (Leaf.ptr ( 0) ( 0))), Slot.av (AV.one Leaf.undef)], h := [( 0, Blk.box [Leaf.dat (.int .i64) r.fst, Leaf.dat link.sl r.snd])] }
def b45_0 : p45_0.T → Tr (p45_0.T ⊕ (Int × List Line ⊕ Int × List Line)) := fun ⟨⟨x1, ⟨x2, ⟨x3, _⟩⟩⟩, ⟨⟨h0_0, ⟨h0_1, _⟩⟩, _⟩⟩ => B45_0 x1 x2 x3 h0_0 h0_1
theorem h45_0 (ls : Nat → VS → Option (Tr (Ex × VS))) (x : p45_0.T) : (evC (evI 2) (lc Tryd.f45 0) (Env.lend (M45 ls) 0) (unV (live45 2) (p45_0.V x))).map (decL 0 (live45 2) (live45 1002)) = (b45_0 x).map (encR p45_0.V X45_0) := by
  obtain ⟨⟨x1, ⟨x2, ⟨x3, _⟩⟩⟩, ⟨⟨h0_0, ⟨h0_1, _⟩⟩, _⟩⟩ := x; kernel_rfl
theorem c45_0 (x : p45_0.T) : canV 0 (live45 2) (unV (live45 2) (p45_0.V x)) = p45_0.V x := by
  obtain ⟨⟨x1, ⟨x2, ⟨x3, _⟩⟩⟩, ⟨⟨h0_0, ⟨h0_1, _⟩⟩, _⟩⟩ := x; kernel_rfl
theorem l45_0 {T : p45_0.T → Tr (Int × List Line ⊕ Int × List Line)} {ls : Nat → VS → Option (Tr (Ex × VS))} (hls : ∀ x, (Env.lend (M45 ls) 0).ls 2 x = p45_0.ls (fun a => (T a).map X45_0) x) (hS : ∀ x r, (T x).val = some r → Rounds b45_0 x r) : LoopOK (evI 2) (Env.lend (M45 ls) 0) (lc Tryd.f45 0) :=
  loopA 2 (live45 2) (live45 1002) p45_0 b45_0 X45_0 T (by kernel_rfl) rfl rfl hls (h45_0 ls) c45_0 hS
def T45 (x : p45_0.T) : Tr (Int × List Line ⊕ Int × List Line) :=
  .ite (decide ((x.1.2.1 : Int) = (List.length (α := Line) x.1.1 : Int) ∧ (x.1.2.2.1 : Int) = 0) && U.okl x.1.1)
    (.ite (allN (fun i => !U.misfit x.2.1.1 (List.getD (α := Line) x.1.1 i U.dL)) (List.length (α := Line) x.1.1) 0) (.ret (.inr (x.2.1.1, x.2.1.2.1))) (.ret (.inl (x.2.1.1, x.2.1.2.1)))) .fail
abbrev E45 : Env := M45 fun key x => bif Nat.beq key 2 then p45_0.ls (fun a => (T45 a).map X45_0) x else none
theorem L45 : LoopOK (evI 2) (E45.lend 0) (lc Tryd.f45 0) := by
  refine l45_0 (T := T45) (fun x => rfl) ?_
  rintro ⟨⟨l, n, i, z⟩, ⟨c, g, z1⟩, z2⟩ r h
  obtain ⟨h1, h2⟩ := pre_val h
  rw [Bool.and_eq_true] at h1
  obtain ⟨h1, hok⟩ := h1
  obtain ⟨e1, e2⟩ := of_decide_eq_true h1
  dsimp only at e1 e2 hok h2
  subst e1
  subst e2
  have hl := U.okl_len hok
  have := Rounds.all (B := b45_0) (N := l.length) (fun i => ((l, (l.length : Int), (i : Int), ()), (c, g, ()), ())) (fun i => !U.misfit c (l.getD i U.dL)) (.inl (c, g)) (.inr (c, g)) (fun i hi => ?_) ?_
  · cases ha : allN (fun i => !U.misfit c (l.getD i U.dL)) l.length 0 <;> simp only [ha, Tr.val, cond_true, cond_false] at h2 this <;> cases h2 <;> exact this
  · have h3 := U.okl_at hok hi
    have h4 : U.misfit c (l.getD i U.dL) = !(U.fitC (l.getD i U.dL).1 && decide (((l.getD i U.dL).1.length : Int) = c)) := rfl
    simp only [b45_0, B45_0, Tr.val, inB_nat hi, rgetL, h3, h4, show ((i : Int) < (l.length : Int)) by omega, decide_true, cond_true, wrap64_nat (show i ≤ 1048576 by omega)]
    cases (U.fitC (l.getD i U.dL).1 && decide (((l.getD i U.dL).1.length : Int) = c)) <;> rfl
  · simp only [b45_0, B45_0, Tr.val, show ¬ ((l.length : Int) < (l.length : Int)) by omega, decide_false, cond_false]
def d45 (a1 : Int) (a2 : List Line) : Tr (Bool) :=
 let v1 : Int := ((↑a2.length : Int))
 let v2 : Int := ((↑a2.length : Int))
 Tr.ite (decide (v2 = v1 ∧ (0 : Int) = (0 : Int)) && U.okl a2) (Tr.ite (allN (fun (i : Nat) => !U.misfit a1 (a2.getD i U.dL)) a2.length (0 : Nat)) (Tr.ite (decide ((1 : Int) ≤ a1)) (Tr.ite (decide (a1 ≤ (80 : Int))) (Tr.ite (decide ((1 : Int) ≤ v2)) (Tr.ret (decide (v2 ≤ (50 : Int)))) (Tr.ret false)) (Tr.ret false)) (Tr.ret false)) (Tr.ret false)) Tr.fail
def e45 (r : Bool) : FRes := { rs := Slot.av (AV.one (Leaf.dat Kd.bool r)), upd := [], new := [] }
@[reducible] def a45 : List AK := [AK.d gridk]
@[reducible] def b45 : List BK := []
theorem t45 (a1 : Int) (a2 : List Line) : evFn (E45) Tryd.f45 [PM.data Kd.bool] (akAV a45 ((a1, a2, ()), ())) (bkBs b45 ()) = (d45 a1 a2).map e45 := by kernel_rfl
def s45 (C : akT a45 → Bool) (G : akT a45 → Bool) : FSpec := aspec a45 b45 e45 (fun x _ => C x) (fun x _ => G x)
theorem k45 {C : akT a45 → Bool} {G : akT a45 → Bool} (hd : ∀ (a1 : Int) (a2 : List Line), C ((a1, a2, ()), ()) = true → (d45 a1 a2).val = some (G ((a1, a2, ()), ()))) (IO : ItOK Tryd.prog (E45) := by exact itOK_none rfl) (L : ∀ c, Tryd.f45.body = some c → LsOK (evI 2) ((E45).lend 0) c := by exact fun c _ => LsOK_none rfl c) : SpecOK Tryd.prog E0 45 (s45 C G) :=
  aspec_ok (ak := a45) (bl := b45) (e := e45) (c := fun x _ => C x) (g := fun x _ => G x) (E0 := E0) (E := E45) tab (.cons wk46 .nil) rfl rfl hm Tryd.func45 (by kernel_rfl) [PM.data Kd.bool] (fun X Y H => by obtain ⟨⟨a1, ⟨a2, _⟩⟩, _⟩ := X; exact val_of (t45 a1 a2) (hd a1 a2 H)) IO L
abbrev w45 : FSpec := s45 (fun x => U.okl x.1.2.1) fun x => U.gridR x.1.1 x.1.2.1
theorem wk45 : SpecOK Tryd.prog E0 45 w45 := by
  refine k45 (fun c l H => ?_) (L := ls_ok (lcs := [lc Tryd.f45 0]) (rgs := []) (by kernel_rfl) (by kernel_rfl) L45 trivial)
  have H : U.okl l = true := H
  show _ = some (U.gridR c l)
  have e : allN (fun i => !U.misfit c (l.getD i U.dL)) l.length 0 = !l.any (U.misfit c) := by
    have := allN_list (q := fun y => !U.misfit c y) (d := U.dL) (l := l)
    rw [this, Bool.eq_iff_iff]
    simp
  unfold U.gridR U.inn
  by_cases a1 : 1 ≤ c <;> by_cases a2 : c ≤ 80 <;> by_cases a3 : 1 ≤ (l.length : Int) <;> by_cases a4 : (l.length : Int) ≤ 50 <;> cases a5 : l.any (U.misfit c) <;> rw [a5] at e <;> simp only [d45, Tr.val, H, e, a1, a2, a3, a4, a5, decide_true, decide_false, cond_true, cond_false, Bool.not_true, Bool.not_false, Bool.and_self, Bool.true_and, Bool.false_and, Bool.and_true, Bool.and_false, and_self]
end Go.Proofs.YtdlbnlbajnafdaaDoor
end
section
set_option linter.unusedVariables false
set_option linter.unusedSimpArgs false
set_option maxRecDepth 20000
set_option maxHeartbeats 4000000
open Go Go.Ev
namespace Go.Proofs.YtdlbnlbajnafdaaDoor
open Go.RowKit
def w175 : FSpec := { ps := [.raw], g := fun args bs => match args with
  | [.one (.ptr 0 0)] => some { rs := .av (.one (.ptr 0 0)), upd := bs }
  | _ => none }
theorem wk175 : SpecOK Tryd.prog E0 175 w175 := by
  intro F O args bs r hr
  unfold w175 at hr
  simp only at hr
  split at hr
  · cases hr
    intro hc w K A vs H hv
    cases hv with
    | cons h0 h1 =>
      cases h1
      rename_i v
      refine .inl ⟨v, w, ?_, K, A, by rw [List.append_nil]; exact H, by rw [List.append_nil]; exact Ext.refl _ _ _ _, by rw [List.append_nil]; exact h0, rfl⟩
      rw [run_callFunc_extern Tryd.func175 (by kernel_rfl) (by kernel_rfl) (by kernel_rfl) (e := Extern.AbiNoEscape.same) (by kernel_rfl)]
      rw [Lib.run_noEscape]
      rfl
  · cases hr
abbrev bldZ : List BK := [.tb 143 [.c .nils]]
def live144 (key : Nat) : Lv :=
  { ls := [] }
def d144 (h0_u : Bool) (h1 : List Int) : Tr (Bool × List Int) :=
 Tr.ite (!h0_u) (Tr.ret (true, h1)) (Tr.ite (!h0_u) Tr.fail (Tr.ret (h0_u, h1)))
def e144 (r : Bool × List Int) : FRes := { rs := Slot.tup [], upd := [Blk.tb ( 143) r.fst [Leaf.srow ( 1)], Blk.row ( 5) (Kd.int IntKind.u8) r.snd], new := [] }
@[reducible] def a144 : List AK := [AK.c (Leaf.ptr (0 : Nat) (0 : Nat))]
@[reducible] def b144 : List BK := [BK.tb (143 : TypeId) [SK.c (Leaf.srow (1 : Nat))], BK.row (5 : TypeId) (Kd.int IntKind.u8)]
theorem t144 (h0_u : Bool) (h1 : List Int) : evFn (Env.loops (Env.withFns E0 [((175 : Nat), w175)]) live144 fun (x : Nat) (x_1 : VS) => none) Tryd.f144 [] (akAV a144 ()) (bkBs b144 ((h0_u, ()), h1, ())) = (d144 h0_u h1).map e144 := by kernel_rfl
def s144' (G : akT a144 → bksT b144 → Bool × List Int) : FSpec := aspec0 a144 b144 e144 (G)
theorem k144' {G : akT a144 → bksT b144 → Bool × List Int} (hd : ∀ (h0_u : Bool) (h1 : List Int), (d144 h0_u h1).val = some (G () ((h0_u, ()), h1, ()))) (IO : ItOK Tryd.prog (Env.loops (Env.withFns E0 [((175 : Nat), w175)]) live144 fun (x : Nat) (x_1 : VS) => none) := by exact itOK_none rfl) (L : ∀ c, Tryd.f144.body = some c → LsOK (evI 2) ((Env.loops (Env.withFns E0 [((175 : Nat), w175)]) live144 fun (x : Nat) (x_1 : VS) => none).lend 2) c := by exact fun c _ => LsOK_none rfl c) : SpecOK Tryd.prog E0 144 (s144' G) :=
  aspec0_ok (ak := a144) (bl := b144) (e := e144) (g := G) (E0 := E0) (E := Env.loops (Env.withFns E0 [((175 : Nat), w175)]) live144 fun (x : Nat) (x_1 : VS) => none) tab (.cons wk175 .nil) rfl rfl hm Tryd.func144 (by kernel_rfl) [] (fun X Y => by obtain ⟨⟨h0_u, _⟩, ⟨h1, _⟩⟩ := Y; exact val_of (t144 h0_u h1) (hd h0_u h1)) IO L
abbrev w144 : FSpec := s144' fun _ y => (true, y.2.1)
theorem wk144 : SpecOK Tryd.prog E0 144 w144 := k144' fun u h => by cases u <;> rfl
namespace Z
def d144 (h0_u : Bool) : Tr (Bool) :=
 Tr.ite (!h0_u) (Tr.ret true) (Tr.ite (!h0_u) Tr.fail (Tr.ret h0_u))
def e144 (r : Bool) : FRes := { rs := Slot.tup [], upd := [Blk.tb ( 143) r [Leaf.nils]], new := [] }
@[reducible] def a144 : List AK := [AK.c (Leaf.ptr (0 : Nat) (0 : Nat))]
@[reducible] def b144 : List BK := [BK.tb (143 : TypeId) [SK.c Leaf.nils]]
theorem t144 (h0_u : Bool) : evFn (Env.withFns E0 [((175 : Nat), w175)]) Tryd.f144 [] (akAV a144 ()) (bkBs b144 ((h0_u, ()), ())) = (d144 h0_u).map e144 := by kernel_rfl
def s144' (G : akT a144 → bksT b144 → Bool) : FSpec := aspec0 a144 b144 e144 (G)
theorem k144' {G : akT a144 → bksT b144 → Bool} (hd : ∀ (h0_u : Bool), (d144 h0_u).val = some (G () ((h0_u, ()), ()))) (IO : ItOK Tryd.prog (Env.withFns E0 [((175 : Nat), w175)]) := by exact itOK_none rfl) (L : ∀ c, Tryd.f144.body = some c → LsOK (evI 2) ((Env.withFns E0 [((175 : Nat), w175)]).lend 1) c := by exact fun c _ => LsOK_none rfl c) : SpecOK Tryd.prog E0 144 (s144' G) :=
  aspec0_ok (ak := a144) (bl := b144) (e := e144) (g := G) (E0 := E0) (E := Env.withFns E0 [((175 : Nat), w175)]) tab (.cons wk175 .nil) rfl rfl hm Tryd.func144 (by kernel_rfl) [] (fun X Y => by obtain ⟨⟨h0_u, _⟩, _⟩ := Y; exact val_of (t144 h0_u) (hd h0_u)) IO L
abbrev w144 : FSpec := s144' fun _ _ => true
theorem wk144 : SpecOK Tryd.prog E0 144 w144 := k144' fun u => by cases u <;> rfl
end Z
def live89 (key : Nat) : Lv :=
  bif Nat.beq key 9996 then { ls := [14] } else
  { ls := [] }
def d89 (b : ByteArray) (h0_u : Bool) (h1 : List Int) : Tr (Int × Bool × List Int) :=
 Tr.ite (decide (List.length h1 + ByteArray.size b ≤ (140737488355328 : Nat))) (Tr.ret ((↑(ByteArray.size b) : Int), true, h1 ++ bytesL b)) Tr.fail
def e89 (r : Int × Bool × List Int) : FRes := { rs := Slot.tup [AV.one (Leaf.dat (.int .i64) r.fst), AV.one Leaf.nili], upd := [Blk.tb ( 143) r.snd.fst [Leaf.srow ( 2)], Blk.dead], new := [Blk.row ( 5) (Kd.int IntKind.u8) r.snd.snd] }
@[reducible] def a89 : List AK := [AK.c (Leaf.ptr (0 : Nat) (0 : Nat)), AK.d Kd.str]
@[reducible] def b89 : List BK := [BK.tb (143 : TypeId) [SK.c (Leaf.srow (1 : Nat))], BK.row (5 : TypeId) (Kd.int IntKind.u8)]
theorem t89 (b : ByteArray) (h0_u : Bool) (h1 : List Int) : evFn (Env.loops (Env.withFns E0 [((144 : Nat), w144)]) live89 fun (x : Nat) (x_1 : VS) => none) Tryd.f89 [PM.data (.int .i64), PM.raw] (akAV a89 (b, ())) (bkBs b89 ((h0_u, ()), h1, ())) = (d89 b h0_u h1).map e89 := by kernel_rfl
def s89 (C : akT a89 → bksT b89 → Bool) (G : akT a89 → bksT b89 → Int × Bool × List Int) : FSpec := aspec a89 b89 e89 (C) (G)
theorem k89 {C : akT a89 → bksT b89 → Bool} {G : akT a89 → bksT b89 → Int × Bool × List Int} (hd : ∀ (b : ByteArray) (h0_u : Bool) (h1 : List Int), C (b, ()) ((h0_u, ()), h1, ()) = true → (d89 b h0_u h1).val = some (G (b, ()) ((h0_u, ()), h1, ()))) (IO : ItOK Tryd.prog (Env.loops (Env.withFns E0 [((144 : Nat), w144)]) live89 fun (x : Nat) (x_1 : VS) => none) := by exact itOK_none rfl) (L : ∀ c, Tryd.f89.body = some c → LsOK (evI 2) ((Env.loops (Env.withFns E0 [((144 : Nat), w144)]) live89 fun (x : Nat) (x_1 : VS) => none).lend 2) c := by exact fun c _ => LsOK_none rfl c) : SpecOK Tryd.prog E0 89 (s89 C G) :=
  aspec_ok (ak := a89) (bl := b89) (e := e89) (c := C) (g := G) (E0 := E0) (E := Env.loops (Env.withFns E0 [((144 : Nat), w144)]) live89 fun (x : Nat) (x_1 : VS) => none) tab (.cons wk144 .nil) rfl rfl hm Tryd.func89 (by kernel_rfl) [PM.data (.int .i64), PM.raw] (fun X Y H => by obtain ⟨b, _⟩ := X; obtain ⟨⟨h0_u, _⟩, ⟨h1, _⟩⟩ := Y; exact val_of (t89 b h0_u h1) (hd b h0_u h1 H)) IO L
def live91 (key : Nat) : Lv :=
  { ls := [] }
def d91 (h0_u : Bool) (h1 : List Int) : Tr (ByteArray × Bool) :=
 let v1 : Int := ((↑(List.length h1) : Int))
 let v2 : Int := ((↑(List.length h1) : Int))
 Tr.ite (decide (v2 = v1)) (Tr.ret (strOf h1, h0_u)) Tr.fail
def e91 (r : ByteArray × Bool) : FRes := { rs := Slot.av (AV.one (Leaf.dat Kd.str r.fst)), upd := [Blk.tb ( 143) r.snd [Leaf.srow ( 1)], Blk.dead], new := [] }
@[reducible] def a91 : List AK := [AK.c (Leaf.ptr (0 : Nat) (0 : Nat))]
@[reducible] def b91 : List BK := [BK.tb (143 : TypeId) [SK.c (Leaf.srow (1 : Nat))], BK.row (5 : TypeId) (Kd.int IntKind.u8)]
theorem t91 (h0_u : Bool) (h1 : List Int) : evFn (Env.loops (Env.withFns E0 [((144 : Nat), w144)]) live91 fun (x : Nat) (x_1 : VS) => none) Tryd.f91 [PM.data Kd.str] (akAV a91 ()) (bkBs b91 ((h0_u, ()), h1, ())) = (d91 h0_u h1).map e91 := by kernel_rfl
def s91' (G : akT a91 → bksT b91 → ByteArray × Bool) : FSpec := aspec0 a91 b91 e91 (G)
theorem k91' {G : akT a91 → bksT b91 → ByteArray × Bool} (hd : ∀ (h0_u : Bool) (h1 : List Int), (d91 h0_u h1).val = some (G () ((h0_u, ()), h1, ()))) (IO : ItOK Tryd.prog (Env.loops (Env.withFns E0 [((144 : Nat), w144)]) live91 fun (x : Nat) (x_1 : VS) => none) := by exact itOK_none rfl) (L : ∀ c, Tryd.f91.body = some c → LsOK (evI 2) ((Env.loops (Env.withFns E0 [((144 : Nat), w144)]) live91 fun (x : Nat) (x_1 : VS) => none).lend 2) c := by exact fun c _ => LsOK_none rfl c) : SpecOK Tryd.prog E0 91 (s91' G) :=
  aspec0_ok (ak := a91) (bl := b91) (e := e91) (g := G) (E0 := E0) (E := Env.loops (Env.withFns E0 [((144 : Nat), w144)]) live91 fun (x : Nat) (x_1 : VS) => none) tab (.cons wk144 .nil) rfl rfl hm Tryd.func91 (by kernel_rfl) [PM.data Kd.str] (fun X Y => by obtain ⟨⟨h0_u, _⟩, ⟨h1, _⟩⟩ := Y; exact val_of (t91 h0_u h1) (hd h0_u h1)) IO L
abbrev w89 : FSpec := s89 (fun x y => decide (List.length (α := Int) y.2.1 + ByteArray.size x.1 ≤ 140737488355328)) fun x y => ((ByteArray.size x.1 : Int), true, List.append (α := Int) y.2.1 (bytesL x.1))
theorem wk89 : SpecOK Tryd.prog E0 89 w89 := k89 fun b u h H => by
  simp only [d89, Tr.val, H, cond_true]
  rfl
abbrev w91 : FSpec := s91' fun _ y => (strOf y.2.1, y.1.1)
theorem wk91 : SpecOK Tryd.prog E0 91 w91 := k91' fun u h => by
  simp only [d91, Tr.val, decide_true, cond_true]
end Go.Proofs.YtdlbnlbajnafdaaDoor
end
section
set_option linter.unusedVariables false
set_option linter.unusedSimpArgs false
set_option maxRecDepth 20000
set_option maxHeartbeats 4000000
open Go Go.Ev
namespace U
open Go.Proofs.YtdlbnlbajnafdaaDoor
theorem strOf_app (a b : List Int) : strOf (a ++ b) = strOf a ++ strOf b := by
  apply ByteArray.ext
  simp [strOf]
theorem strOf_bytes (s : ByteArray) : strOf (bytesL s) = s := by
  apply ByteArray.ext
  unfold strOf bytesL
  rw [List.map_map]
  have e : ((fun n : Int => UInt8.ofNat n.toNat) ∘ fun b : UInt8 => (b.toNat : Int)) = id := by
    funext b
    simp
  rw [e, List.map_id]
end U
end
section
set_option linter.unusedVariables false
set_option linter.unusedSimpArgs false
set_option maxRecDepth 20000
set_option maxHeartbeats 4000000
open Go Go.Ev
namespace U
def noneC : Cl := (ByteArray.empty, 1, (0, 0, 0, ()), ())
def fillL (l : List Cl) (n : Nat) : List Cl := l ++ List.replicate (n - l.length) noneC
end U
end
section
set_option linter.unusedVariables false
set_option linter.unusedSimpArgs false
set_option maxRecDepth 20000
set_option maxHeartbeats 4000000
open Go Go.Ev
namespace U
theorem bytesL_len (b : ByteArray) : (bytesL b).length = b.size := by simp [bytesL]
end U
end
section
set_option linter.unusedVariables false
set_option linter.unusedSimpArgs false
set_option maxRecDepth 20000
set_option maxHeartbeats 4000000
open Go Go.Ev
namespace Go.Ev
theorem Rounds.mapA {α β ρ τ : Type} {B : τ → Tr (τ ⊕ ρ)} (xs : List α) (st : Nat → List β → τ) (g : α → β) (fin : List β → ρ) (N : Nat)
    (hs : ∀ i s (h : i < xs.length), s.length + (xs.length - i) ≤ N → (B (st i s)).val = some (.inl (st (i + 1) (s ++ [g xs[i]])))) (he : ∀ s, (B (st xs.length s)).val = some (.inr (fin s))) (s0 : List β) (h0 : s0.length + xs.length ≤ N) :
    Rounds B (st 0 s0) (fin (s0 ++ xs.map g)) := by
  have := Rounds.fold0 (B := B) xs st (fun s c => s ++ [g c]) fin (fun i s => s.length + (xs.length - i) ≤ N) s0 (by omega) (fun i s hi hv => ⟨hs i s hi hv, by simp only [List.length_append, List.length_singleton]; omega⟩) (fun s _ => he s)
  have e : ∀ (l : List α) (a : List β), l.foldl (fun s c => s ++ [g c]) a = a ++ l.map g := by
    intro l
    induction l with
    | nil => intro a; simp
    | cons x l ih => intro a; rw [List.foldl_cons, ih]; simp
  rwa [e] at this
end Go.Ev
end
section
set_option linter.unusedVariables false
set_option linter.unusedSimpArgs false
set_option maxRecDepth 20000
set_option maxHeartbeats 4000000
open Go Go.Ev
namespace Go.Proofs.YtdlbnlbajnafdaaDoor
def live106 (key : Nat) : Lv :=
  bif Nat.beq key 3 then { ls := [1, 6, 7], wd := [⟨7, some 0, .row 76 celk⟩] } else bif Nat.beq key 1003 then { ls := [6, 7] } else
  { ls := [] }
abbrev M106 (ls : Nat → VS → Option (Tr (Ex × VS))) : Env := E0.loops live106 ls
@[reducible] def p106_0 : LP := { n := 27, sl := [.d (.int .i64), .c (Leaf.ptr ( 0) ( 0)), .c (Leaf.ptr ( 1) ( 0))], bl := [(0, .box [.c (Leaf.nils), .d (Kd.bool)]), (1, .box [.c (Leaf.row ( 2)), .d (Kd.bool)]), (2, .row 76 (celk))] }
def B106_0 (x0 : Int) (h0_1 : Bool) (h1_1 : Bool) (h2 : List Cell) : Tr (p106_0.T ⊕ (Bool × Bool × List Cell)) :=
 let v1 : Int := ((↑(List.length h2) : Int))
 Tr.ite (decide (v1 < x0)) (Tr.ite (decide ((List.length h2 + (1 : Nat)) * (48 : Nat) ≤ (140737488355328 : Nat))) (Tr.ret (Sum.inl ((x0, ()), (h0_1, ()), (h1_1, ()), h2 ++ [(ByteArray.empty, (1 : Int), ((0 : Int), (0 : Int), (0 : Int), ()), ())], ()))) Tr.fail) (Tr.ret (Sum.inr (h0_1, h1_1, h2)))
def X106_0 (r : (Bool × Bool × List Cell)) : Ex × VS := Prod.mk (Ex.exit ( 0)) { n := 27, v := [Slot.av (AV.one (Leaf.ptr ( 0) ( 0))), Slot.av (AV.one (Leaf.ptr ( 1) ( 0)))], h := [( 0, Blk.box [Leaf.nils, Leaf.dat Kd.bool r.fst]), ( 1, Blk.box [Leaf.row ( 2), Leaf.dat Kd.bool r.snd.fst]), ( 2, Blk.row ( 76) celk r.snd.snd)] }
def b106_0 : p106_0.T → Tr (p106_0.T ⊕ (Bool × Bool × List Cell)) := fun ⟨⟨x0, _⟩, ⟨⟨h0_1, _⟩, ⟨⟨h1_1, _⟩, ⟨h2, _⟩⟩⟩⟩ => B106_0 x0 h0_1 h1_1 h2
theorem h106_0 (ls : Nat → VS → Option (Tr (Ex × VS))) (x : p106_0.T) : (evC (evI 2) (lc Tryd.f106 0) (Env.lend (M106 ls) 0) (unV (live106 3) (p106_0.V x))).map (decL 0 (live106 3) (live106 1003)) = (b106_0 x).map (encR p106_0.V X106_0) := by
  obtain ⟨⟨x0, _⟩, ⟨⟨h0_1, _⟩, ⟨⟨h1_1, _⟩, ⟨h2, _⟩⟩⟩⟩ := x; kernel_rfl
theorem c106_0 (x : p106_0.T) : canV 0 (live106 3) (unV (live106 3) (p106_0.V x)) = p106_0.V x := by
  obtain ⟨⟨x0, _⟩, ⟨⟨h0_1, _⟩, ⟨⟨h1_1, _⟩, ⟨h2, _⟩⟩⟩⟩ := x; kernel_rfl
theorem l106_0 {T : p106_0.T → Tr (Bool × Bool × List Cell)} {ls : Nat → VS → Option (Tr (Ex × VS))} (hls : ∀ x, (Env.lend (M106 ls) 0).ls 3 x = p106_0.ls (fun a => (T a).map X106_0) x) (hS : ∀ x r, (T x).val = some r → Rounds b106_0 x r) : LoopOK (evI 2) (Env.lend (M106 ls) 0) (lc Tryd.f106 0) :=
  loopA 3 (live106 3) (live106 1003) p106_0 b106_0 X106_0 T (by kernel_rfl) rfl rfl hls (h106_0 ls) c106_0 hS
def T106 (x : p106_0.T) : Tr (Bool × Bool × List Cell) :=
  match x with
  | ⟨⟨n, _⟩, ⟨a, _⟩, ⟨b, _⟩, l, _⟩ => .ite (decide (0 ≤ (n : Int) ∧ (n : Int) ≤ 1048576 ∧ List.length (α := Cell) l ≤ 1048576)) (.ret (a, b, U.fillL l (Int.toNat n))) .fail
abbrev E106 : Env := M106 fun key x => bif Nat.beq key 3 then p106_0.ls (fun a => (T106 a).map X106_0) x else none
theorem R106 (n : Nat) (hn : n ≤ 1048576) (a b : Bool) : ∀ (k : Nat) (l : List Cell), n - l.length = k → Rounds b106_0 (((n : Int), ()), (a, ()), (b, ()), l, ()) (a, b, U.fillL l n)
  | 0, l, h => by
    refine .exit ?_
    have c : decide ((l.length : Int) < (n : Int)) = false := decide_eq_false (by omega)
    simp only [b106_0, B106_0, Tr.val, c, cond_false]
    unfold U.fillL
    rw [h, List.replicate_zero, List.append_nil]
  | k + 1, l, h => by
    have ih := R106 n hn a b k (l ++ [U.noneC]) (by rw [List.length_append, List.length_singleton]; omega)
    have e : U.fillL (l ++ [U.noneC]) n = U.fillL l n := by
      unfold U.fillL
      rw [List.length_append, List.length_singleton, h, show n - (l.length + 1) = k by omega, List.append_assoc, List.replicate_succ]
      rfl
    rw [e] at ih
    refine .step ?_ ih
    have c : decide ((l.length : Int) < (n : Int)) = true := decide_eq_true (by omega)
    have c1 : decide ((l.length + 1) * 48 ≤ 140737488355328) = true := decide_eq_true (by omega)
    simp only [b106_0, B106_0, Tr.val, c, c1, cond_true]
    rfl
theorem L106 : LoopOK (evI 2) (E106.lend 0) (lc Tryd.f106 0) := by
  refine l106_0 (T := T106) (fun x => rfl) ?_
  rintro ⟨⟨n, z⟩, ⟨a, z1⟩, ⟨b, z2⟩, l, z3⟩ r hh
  obtain ⟨g1, g2⟩ := pre_val hh
  have g1 : 0 ≤ (n : Int) ∧ (n : Int) ≤ 1048576 ∧ l.length ≤ 1048576 := of_decide_eq_true g1
  obtain ⟨c1, c2, c3⟩ := g1
  obtain ⟨m, rfl⟩ := Int.eq_ofNat_of_zero_le c1
  cases g2
  have c2 : (m : Int) ≤ 1048576 := c2
  exact R106 m (by omega) a b _ l rfl
def d106 (a : List Cell) (b : Int) (c : Bool) : Tr (List U.Cl × Bool) :=
 Tr.ite (decide (List.length a * (48 : Nat) ≤ (140737488355328 : Nat))) (Tr.ite (decide ((0 : Int) ≤ b ∧ b ≤ (1048576 : Int) ∧ List.length a ≤ (1048576 : Nat))) (Tr.ret (U.fillL a (Int.toNat b), c)) Tr.fail) Tr.fail
def e106 (r : List U.Cl × Bool) : FRes := { rs := Slot.av (AV.agg [Leaf.dat (Kd.sl celk) r.fst, Leaf.dat Kd.bool r.snd]), upd := [], new := [] }
@[reducible] def a106 : List AK := [AK.d (Kd.sl celk), AK.d (.int .i64), AK.d Kd.bool]
@[reducible] def b106 : List BK := []
theorem t106 (a : List Cell) (b : Int) (c : Bool) : evFn (E106) Tryd.f106 [PM.data link] (akAV a106 (a, b, c, ())) (bkBs b106 ()) = (d106 a b c).map e106 := by kernel_rfl
def s106 (C : akT a106 → Bool) (G : akT a106 → List U.Cl × Bool) : FSpec := aspec a106 b106 e106 (fun x _ => C x) (fun x _ => G x)
theorem k106 {C : akT a106 → Bool} {G : akT a106 → List U.Cl × Bool} (hd : ∀ (a : List Cell) (b : Int) (c : Bool), C (a, b, c, ()) = true → (d106 a b c).val = some (G (a, b, c, ()))) (IO : ItOK Tryd.prog (E106) := by exact itOK_none rfl) (L : ∀ c, Tryd.f106.body = some c → LsOK (evI 2) ((E106).lend 0) c := by exact fun c _ => LsOK_none rfl c) : SpecOK Tryd.prog E0 106 (s106 C G) :=
  aspec_ok (ak := a106) (bl := b106) (e := e106) (c := fun x _ => C x) (g := fun x _ => G x) (E0 := E0) (E := E106) tab .nil rfl rfl hm Tryd.func106 (by kernel_rfl) [PM.data link] (fun X Y H => by obtain ⟨a, ⟨b, ⟨c, _⟩⟩⟩ := X; exact val_of (t106 a b c) (hd a b c H)) IO L
abbrev w106 : FSpec := s106 (fun x => decide (0 ≤ (x.2.1 : Int) ∧ (x.2.1 : Int) ≤ 1048576 ∧ List.length (α := Cell) x.1 ≤ 1048576)) fun x => (U.fillL x.1 x.2.1.toNat, x.2.2.1)
theorem wk106 : SpecOK Tryd.prog E0 106 w106 := by
  refine k106 (fun l n b H => ?_) (L := ls_ok (lcs := [lc Tryd.f106 0]) (rgs := []) (by kernel_rfl) (by kernel_rfl) L106 trivial)
  have H : 0 ≤ (n : Int) ∧ (n : Int) ≤ 1048576 ∧ l.length ≤ 1048576 := of_decide_eq_true H
  obtain ⟨c1, c2, c3⟩ := H
  have c4 : decide ((0 + l.length) * 48 ≤ 140737488355328) = true := decide_eq_true (by omega)
  have c5 : decide (l.length * 48 ≤ 140737488355328) = true := decide_eq_true (by omega)
  simp only [d106, Tr.val, c1, c2, c3, c4, c5, and_self, decide_true, cond_true]
end Go.Proofs.YtdlbnlbajnafdaaDoor
end
