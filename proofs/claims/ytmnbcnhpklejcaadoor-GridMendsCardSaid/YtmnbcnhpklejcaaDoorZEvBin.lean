/- Operations on numbers, texts and truth values. -/
import Derived.Laws.Cover3
import Derived.Test.YtmnbcnhpklejcaaDoorZEvDo
set_option linter.unusedVariables false
namespace Go.Ev
open Go.RowKit

def Good (P : Program) (C : Ctx) (K : KSet) (A : Asg) (h : Heap) (w : World) (nx : Sem Next) (r : OR) : Prop :=
  r.c ≠ some false → ∃ n v w' K' A', nx.run P w = .ok n w' ∧ (n = .value v ∨ (n = .skip ∧ v = undef)) ∧ HR C w' K' A' (h.sets r.u) ∧
    Ext K A h w K' A' (h.sets r.u) w' ∧ SlotR w' K' A' (h.sets r.u) r.v v

section
variable {P : Program} {C : Ctx} {w : World} {K : KSet} {A : Asg} {h : Heap} {nx : Sem Next} {r : OR}

theorem Good.pure (H : HR C w K A h) (hu : r.u = []) (hrun : r.c ≠ some false → ∃ v, nx.run P w = .ok (.value v) w ∧ SlotR w K A h r.v v) : Good P C K A h w nx r := fun hc => by
  obtain ⟨v, h1, h2⟩ := hrun hc
  rw [hu]
  exact ⟨.value v, v, w, K, A, h1, .inl rfl, H, Ext.refl _ _ _ _, h2⟩

/-- A value that an operation computes without memory. -/
def Pure1 (P : Program) (w : World) (K : KSet) (A : Asg) (h : Heap) (s : Sem Value) (r : OR) : Prop :=
  r.u = [] ∧ (r.c ≠ some false → ∃ v, s.run P w = .ok v w ∧ SlotR w K A h r.v v)

theorem Pure1.good {s : Sem Value} (H : HR C w K A h) (hp : Pure1 P w K A h s r) (hnx : nx = (do pure (.value (← s)))) : Good P C K A h w nx r :=
  Good.pure H hp.1 fun hc => by
    obtain ⟨v, h1, h2⟩ := hp.2 hc
    exact ⟨v, by rw [hnx, Sem.run_bind, h1]; rfl, h2⟩

theorem pure1 {s : Sem Value} {l : Leaf} {v : Value} (hr : orL l = some r) (hs : s.run P w = .ok v w) (hl : LeafR w K A h l v) : Pure1 P w K A h s r := by
  cases hr
  exact ⟨rfl, fun _ => ⟨v, hs, hl⟩⟩

theorem not_false_of {b : Bool} (h : some b ≠ some false) : b = true := by
  cases b
  · exact absurd rfl h
  · rfl

theorem intBin_R {op : BinOp} {t : TypeId} {k : IntKind} {x y : Int} (hop : isShift op = false) (hr : intBin op k x y = some r) : Pure1 P w K A h (binOp op t (.int k x) (.int k y)) r := by
  cases op with
  | add => exact pure1 hr (by simp [binOp, Op.intArith]) rfl
  | sub => exact pure1 hr (by simp [binOp, Op.intArith]) rfl
  | mul => exact pure1 hr (by simp [binOp, Op.intArith]) rfl
  | quo =>
    cases hr
    refine ⟨rfl, fun hc => ⟨.int k (k.wrap (x.tdiv y)), ?_, rfl⟩⟩
    have hy : ¬ y = 0 := by simpa using not_false_of hc
    simp [binOp, Op.intDiv, hy]
  | rem =>
    cases hr
    refine ⟨rfl, fun hc => ⟨.int k (x.tmod y), ?_, rfl⟩⟩
    have hy : ¬ y = 0 := by simpa using not_false_of hc
    simp [binOp, Op.intDiv, hy]
  | and => exact pure1 hr (by simp [binOp, Op.intBits]) rfl
  | or => exact pure1 hr (by simp [binOp, Op.intBits]) rfl
  | xor => exact pure1 hr (by simp [binOp, Op.intBits]) rfl
  | andNot => exact pure1 hr (by simp [binOp, Op.intBits]) rfl
  | shl => cases hop
  | shr => cases hop
  | eql => exact pure1 (v := .bool (decide (x = y))) hr (by simp [binOp, Op.intCmp]; rfl) rfl
  | neq => exact pure1 (v := .bool (!(decide (x = y)))) hr (by simp [binOp, Op.intCmp, bne]; rfl) rfl
  | lss => exact pure1 hr (by simp [binOp, Op.intCmp]) rfl
  | leq => exact pure1 hr (by simp [binOp, Op.intCmp]) rfl
  | gtr => exact pure1 hr (by simp [binOp, Op.intCmp]) rfl
  | geq => exact pure1 hr (by simp [binOp, Op.intCmp]) rfl

theorem shiftBin_R {op : BinOp} {t : TypeId} {k k' : IntKind} {x y : Int} (hr : shiftBin op k x y = some r) : Pure1 P w K A h (binOp op t (.int k x) (.int k' y)) r := by
  cases op with
  | shl =>
    cases hr
    refine ⟨rfl, fun hc => ⟨.int k (k.wrap (x * 2 ^ (min y.toNat k.bits))), ?_, rfl⟩⟩
    have hy : 0 ≤ y := by simpa using not_false_of hc
    have hy' : ¬ y < 0 := by omega
    simp [binOp, Op.shift, hy']
  | shr =>
    cases hr
    refine ⟨rfl, fun hc => ⟨.int k (x.fdiv (2 ^ (min y.toNat k.bits))), ?_, rfl⟩⟩
    have hy : 0 ≤ y := by simpa using not_false_of hc
    have hy' : ¬ y < 0 := by omega
    simp [binOp, Op.shift, hy']
  | _ => cases hr

theorem ba_toList (x : ByteArray) : x.toList = x.data.toList := ByteArray.toList_eq x

theorem ba_eq (x y : ByteArray) : (x.toList == y.toList) = decide (x = y) := by
  rw [Bool.eq_iff_iff]
  simp only [beq_iff_eq, decide_eq_true_eq]
  constructor
  · intro h
    cases x
    cases y
    simp [ba_toList] at h
    simp [h]
  · intro h
    rw [h]

theorem strBin_R {op : BinOp} {t : TypeId} {x y : ByteArray} (hr : strBin op x y = some r) : Pure1 P w K A h (binOp op t (.string x) (.string y)) r := by
  cases op with
  | add =>
    cases hr
    refine ⟨rfl, fun hc => ⟨.string (x ++ y), ?_, rfl⟩⟩
    have hy : x.size + y.size ≤ 9223372036854775807 := by simpa using not_false_of hc
    simpa [binOp] using run_string_add_sum (P := P) (w := w) x y hy
  | eql => exact pure1 hr (by simp [binOp, Op.stringOp, ba_eq]) rfl
  | neq => exact pure1 hr (by simp [binOp, Op.stringOp, ba_eq]) rfl
  | lss => exact pure1 hr (by simp [binOp, Op.stringOp]; rfl) rfl
  | leq => exact pure1 hr (by simp [binOp, Op.stringOp, ba_eq]; rfl) rfl
  | gtr => exact pure1 hr (by simp [binOp, Op.stringOp, ba_eq]; rfl) rfl
  | geq => exact pure1 hr (by simp [binOp, Op.stringOp]; rfl) rfl
  | _ => cases hr


theorem boolBin_R {op : BinOp} {t : TypeId} (ht : P.underlying t = some .bool) {x y : Bool} (hr : boolBin op x y = some r) : Pure1 P w K A h (binOp op t (.bool x) (.bool y)) r := by
  cases op with
  | eql =>
    refine pure1 (v := .bool (x == y)) hr ?_ rfl
    show (do pure (Value.bool (← Op.equal t (.bool x) (.bool y)))).run P w = _
    rw [Sem.run_bind, run_equal_bool w t x y ht]
    rfl
  | neq =>
    refine pure1 (v := .bool (!(x == y))) hr ?_ rfl
    show (do pure (Value.bool (!(← Op.equal t (.bool x) (.bool y))))).run P w = _
    rw [Sem.run_bind, run_equal_bool w t x y ht]
    rfl
  | _ => cases hr

theorem eqGuard_int (op : BinOp) (t : TypeId) (x y : Operand) (k : IntKind) (n : Int) (b : Value) : (eqGuard op t x y (.int k n) b).run P w = .ok () w := by
  unfold eqGuard
  cases op <;> simp
theorem eqGuard_str (op : BinOp) (t : TypeId) (x y : Operand) (s : ByteArray) (b : Value) : (eqGuard op t x y (.string s) b).run P w = .ok () w := by
  unfold eqGuard
  cases op <;> simp
theorem eqGuard_bool (op : BinOp) (t : TypeId) (x y : Operand) (s : Bool) (b : Value) : (eqGuard op t x y (.bool s) b).run P w = .ok () w := by
  unfold eqGuard
  cases op <;> simp

theorem Pure1.guard {s : Sem Value} {g : Sem Unit} (hg : g.run P w = .ok () w) (hp : Pure1 P w K A h s r) : Pure1 P w K A h (do g; s) r :=
  ⟨hp.1, fun hc => by
    obtain ⟨v, h1, h2⟩ := hp.2 hc
    exact ⟨v, by rw [Sem.run_bind, hg]; exact h1, h2⟩⟩

theorem kb_R {b : Bool} {v : Value} (H : LeafR w K A h (.kb b) v) : v = .bool b := H
theorem int_R {k : IntKind} {n : Int} {v : Value} (H : LeafR w K A h (.dat (.int k) n) v) : v = .int k n := by
  have : [v] = [Value.int k n] := H
  simpa using this
theorem str_R {s : ByteArray} {v : Value} (H : LeafR w K A h (.dat .str s) v) : v = .string s := by
  have : [v] = [Value.string s] := H
  simpa using this
theorem bool_R {b : Bool} {v : Value} (H : LeafR w K A h (.dat .bool b) v) : v = .bool b := by
  have : [v] = [Value.bool b] := H
  simpa using this

theorem isBoolTy_ok {E : Env} (T : TabOK P E.tt) {t : TypeId} (ht : isBoolTy E t = true) : P.underlying t = some .bool := by
  unfold isBoolTy at ht
  split at ht
  · rename_i ty hty
    split at ht
    · rename_i hd
      have := (T t ty hty).desc
      rw [hd] at this
      exact this
    · cases ht
  · cases ht

theorem bif_some {α : Type} {b : Bool} {x : Option α} {y : α} (h : (bif b then x else none) = some y) : b = true ∧ x = some y := by
  cases b
  · cases h
  · exact ⟨rfl, h⟩

theorem leafEq_R {k : Kd} {a b : Leaf} {x y : Value} {r : Bool} (hx : LeafR w K A h a x) (hy : LeafR w K A h b y) (hr : leafEq k a b = some r) : CellEq k x y r := by
  unfold leafEq at hr
  cases k with
  | int ik =>
    simp only at hr
    split at hr
    · split at hr
      · obtain ⟨hk, hr⟩ := bif_some hr
        rw [Bool.and_eq_true] at hk
        cases ik_eq hk.1
        cases ik_eq hk.2
        cases hr
        rw [int_R hx, int_R hy]
        exact .int _ _ _
      · cases hr
    · cases hr
  | str =>
    simp only at hr
    split at hr
    · split at hr
      · cases hr
        rw [str_R hx, str_R hy]
        exact .str _ _
      · cases hr
    · cases hr
  | bool =>
    simp only at hr
    split at hr
    · split at hr
      · cases hr
        rw [bool_R hx, bool_R hy]
        exact .bool _ _
      · cases hr
        rw [bool_R hx, kb_R hy]
        exact .bool _ _
      · cases hr
    · split at hr
      · cases hr
        rw [kb_R hx, bool_R hy]
        exact .bool _ _
      · cases hr
        rw [kb_R hx, kb_R hy]
        exact .bool _ _
      · cases hr
    · cases hr
  | sl _ => cases hr
  | un => cases hr
  | pr _ _ => cases hr

theorem leafsEq_R : ∀ {ks : List Kd} {l m : List Leaf} {xs ys : List Value} {r : Bool}, All2 (LeafR w K A h) l xs → All2 (LeafR w K A h) m ys → leafsEq ks l m = some r → CellsEq ks xs ys r
  | [k], [a], [b], xs, ys, r, hx, hy, hr => by
    cases hx with
    | cons h0 hx =>
      cases hx
      cases hy with
      | cons h1 hy =>
        cases hy
        exact .one (leafEq_R h0 h1 hr)
  | k :: k' :: ks, a :: l, b :: m, xs, ys, r, hx, hy, hr => by
    simp only [leafsEq] at hr
    split at hr
    · rename_i p hp
      split at hr
      · rename_i q hq
        cases hr
        cases hx with
        | cons h0 hx =>
          cases hy with
          | cons h1 hy => exact .cons (leafEq_R h0 h1 hp) (leafsEq_R hx hy hq)
      · cases hr
    · cases hr
  | [], _, _, _, _, _, _, _, hr => by simp [leafsEq] at hr
  | [k], [], _, _, _, _, _, _, hr => by simp [leafsEq] at hr
  | [k], _ :: _, [], _, _, _, _, _, hr => by simp [leafsEq] at hr
  | [k], a :: a' :: l, b :: m, _, _, _, _, _, hr => by
    simp only [leafsEq] at hr
    split at hr <;> first | cases hr | simp [leafsEq] at hr
  | [k], [a], b :: b' :: m, _, _, _, _, _, hr => by
    simp only [leafsEq] at hr
    split at hr <;> first | cases hr | simp [leafsEq] at hr
  | k :: k' :: ks, [], _, _, _, _, _, _, hr => by simp [leafsEq] at hr
  | k :: k' :: ks, _ :: _, [], _, _, _, _, _, hr => by simp [leafsEq] at hr

theorem binR_R (T : TabOK P C.E.tt) {op : BinOp} {t : TypeId} {x y : AV} {ox oy : Operand} {vx vy : Value} (hx : AVR w K A h x vx) (hy : AVR w K A h y vy) (hr : binR C.E op t x y = some r) :
    Pure1 P w K A h (do eqGuard op t ox oy vx vy; binOp op t vx vy) r := by
  cases x with
  | one a =>
    cases y with
    | agg m => cases hr
    | one b =>
      replace hx : LeafR w K A h a vx := hx
      replace hy : LeafR w K A h b vy := hy
      cases a with
      | nn z k xs =>
        simp only [binR, nnBin] at hr
        cases b with
        | nils =>
          simp only at hr
          split at hr
          · rename_i ty hty
            split at hr
            · rename_i q hq
              obtain ⟨e, k', bts⟩ := q
              have hd := (T t ty hty).desc
              have hu : P.underlying t = some (.slice e) := by
                unfold Ty.el at hq
                split at hq
                · rename_i e' k' b' hty
                  cases hq
                  rw [hty] at hd
                  exact hd.1
                · cases hq
              obtain ⟨_, a, n, c, rfl, hz⟩ := hx
              rw [show vy = _ from hy]
              have heq : (Op.equal t (.slice a n c) (.slice none 0 0)).run P w = .ok z w := by
                rw [← hz]
                exact run_equal_slice_nil w t e a n c hu
              cases op with
              | eql =>
                refine Pure1.guard (by rfl) (pure1 (v := .bool z) hr ?_ rfl)
                show (do pure (Value.bool (← Op.equal t (.slice a n c) (.slice none 0 0)))).run P w = _
                rw [Sem.run_bind, heq]
                rfl
              | neq =>
                refine Pure1.guard (by rfl) (pure1 (v := .bool (!z)) hr ?_ rfl)
                show (do pure (Value.bool (!(← Op.equal t (.slice a n c) (.slice none 0 0))))).run P w = _
                rw [Sem.run_bind, heq]
                rfl
              | _ => cases hr
            · cases hr
          · cases hr
        | _ => cases hr
      | dat k n =>
        simp only [binR] at hr
        cases k with
        | int k =>
          cases b with
          | dat k' m =>
            cases k' with
            | int k' =>
              simp only [binL] at hr
              rw [int_R hx, int_R hy]
              refine Pure1.guard (eqGuard_int ..) ?_
              cases hs : isShift op with
              | true => rw [hs] at hr; exact shiftBin_R hr
              | false =>
                rw [hs] at hr
                obtain ⟨hk, hr⟩ := bif_some hr
                cases ik_eq hk
                exact intBin_R hs hr
            | _ => cases hr
          | _ => cases hr
        | str =>
          cases b with
          | dat k' m =>
            cases k' with
            | str =>
              rw [str_R hx, str_R hy]
              exact Pure1.guard (eqGuard_str ..) (strBin_R hr)
            | _ => cases hr
          | _ => cases hr
        | bool =>
          obtain ⟨hb, hr⟩ := bif_some hr
          have ht := isBoolTy_ok T hb
          rw [bool_R hx]
          refine Pure1.guard (eqGuard_bool ..) ?_
          cases b with
          | dat k' m =>
            cases k' with
            | bool =>
              rw [bool_R hy]
              exact boolBin_R ht hr
            | _ => cases hr
          | kb m =>
            rw [kb_R hy]
            exact boolBin_R ht hr
          | _ => cases hr
        | _ => cases hr
      | kb n =>
        simp only [binR] at hr
        obtain ⟨hb, hr⟩ := bif_some hr
        have ht := isBoolTy_ok T hb
        rw [kb_R hx]
        refine Pure1.guard (eqGuard_bool ..) ?_
        cases b with
        | dat k' m =>
          cases k' with
          | bool =>
            rw [bool_R hy]
            exact boolBin_R ht hr
          | _ => cases hr
        | kb m =>
          rw [kb_R hy]
          exact boolBin_R ht hr
        | _ => cases hr
      | _ => cases hr
  | agg l =>
    cases y with
    | one b => cases hr
    | agg m =>
      obtain ⟨xs, rfl, hx⟩ := hx
      obtain ⟨ys, rfl, hy⟩ := hy
      simp only [binR] at hr
      split at hr
      · rename_i ty hty
        split at hr
        · rename_i b hb
          have hd := (T t ty hty).desc
          have hd' : ∃ fl, ty.d = .struct fl ty.eq := by
            unfold Ty.eq at hb ⊢
            split at hb
            · rename_i fl e hd
              exact ⟨fl, by rw [hd]⟩
            · simp [leafsEq] at hb
          obtain ⟨fl, hfl⟩ := hd'
          rw [hfl] at hd
          obtain ⟨fs, hu, hm, heq⟩ := hd
          obtain ⟨g1, g2, g3⟩ := heq xs ys b (leafsEq_R hx hy hb) w ox oy
          cases op with
          | eql =>
            refine Pure1.guard g1 (pure1 (v := .bool b) hr ?_ rfl)
            show (do pure (Value.bool (← Op.equal t (.agg xs.toArray) (.agg ys.toArray)))).run P w = _
            rw [Sem.run_bind, g3]
            rfl
          | neq =>
            refine Pure1.guard g2 (pure1 (v := .bool (!b)) hr ?_ rfl)
            show (do pure (Value.bool (!(← Op.equal t (.agg xs.toArray) (.agg ys.toArray))))).run P w = _
            rw [Sem.run_bind, g3]
            rfl
          | _ => cases hr
        · cases hr
      · cases hr

theorem unR_R {op : UnOp} {l : Leaf} {v : Value} (hl : LeafR w K A h l v) (hr : unR op l = some r) : Pure1 P w K A h (Op.unary op v) r := by
  unfold unR at hr
  split at hr
  · rw [bool_R hl]
    exact pure1 hr (by simp [Op.unary]) rfl
  · rw [kb_R hl]
    exact pure1 hr (by simp [Op.unary]) rfl
  · rw [int_R hl]
    exact pure1 hr (by simp [Op.unary, Op.intArith]) rfl
  · cases hr

theorem bt_get {s : ByteArray} {i : Int} (hi : 0 ≤ i ∧ i < s.size) : ((s[i.toNat]'(by omega)).toNat : Int) = bt s i := by
  have hlt : i.toNat < s.data.size := by
    have : s.data.size = s.size := rfl
    omega
  have hlt' : i.toNat < s.size := by omega
  unfold bt
  simp [Array.getD, hlt']
  rfl

theorem indexR_str {t : TypeId} (ht : P.underlying t = some .string) {s : ByteArray} {k : IntKind} {i : Int} (hi : inB i s.size = true) : (Instr.index t (.string s) (.int k i)).run P w = .ok (.int .u8 (bt s i)) w := by
  have hi' : 0 ≤ i ∧ i < s.size := by simpa [inB] using hi
  rw [run_index_string w t s k i ht, dif_pos hi', bt_get hi']

end
end Go.Ev
