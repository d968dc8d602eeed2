/- Each operation of the evaluator is what the model's operation does. -/
import Derived.Test.YtmnbcnhpklejcaaDoorZEvRel
import Derived.Deep.MidRow
set_option linter.unusedVariables false
namespace Go.Ev
open Go.RowKit

/-- Two cells of a kind, and whether they are the same. -/
inductive CellEq : Kd → Value → Value → Bool → Prop
  | int (k : IntKind) (x y : Int) : CellEq (.int k) (.int k x) (.int k y) (decide (x = y))
  | str (x y : ByteArray) : CellEq .str (.string x) (.string y) (decide (x = y))
  | bool (x y : Bool) : CellEq .bool (.bool x) (.bool y) (x == y)

inductive CellsEq : List Kd → List Value → List Value → Bool → Prop
  | one {k : Kd} {x y : Value} {b : Bool} : CellEq k x y b → CellsEq [k] [x] [y] b
  | cons {k k' : Kd} {ks : List Kd} {x y : Value} {xs ys : List Value} {b c : Bool} : CellEq k x y b → CellsEq (k' :: ks) xs ys c → CellsEq (k :: k' :: ks) (x :: xs) (y :: ys) (b && c)

/-- A type of the program is as the evaluator's table tells it. -/
structure TyOK (P : Program) (t : TypeId) (ty : Ty) : Prop where
  size : (P.info? t).map (·.size) = some ty.size
  row : (P.underlying t).map TypeDesc.isRow = some ty.agg
  zero : known ty.z = true → ∃ i zv, P.info? t = some i ∧ i.zero = some zv ∧ ∀ w K A h, All2 (LeafR w K A h) ty.z zv.cells.toList
  desc : match ty.d with
    | .int k => P.underlying t = some (.int k)
    | .bool => P.underlying t = some .bool
    | .str => P.underlying t = some .string
    | .slice e k b => P.underlying t = some (.slice e) ∧ ∃ i z, P.info? e = some i ∧ i.zero = some z ∧ i.size = k.sz ∧ i.bytes = b ∧ z.cells.size = k.sz ∧ 0 < k.sz ∧ 0 < b ∧ ∀ w K, Kd.R w K k k.dflt z.cells.toList
    | .struct fl eq => ∃ fs, P.underlying t = some (.struct fs) ∧ fs.toList.mapM (fun f => (P.info? f.type).map fun i => (f.offset, i.size)) = some fl ∧
        (∀ xs ys b, CellsEq eq xs ys b → ∀ (w : World) x y,
          (eqGuard .eql t x y (.agg xs.toArray) (.agg ys.toArray)).run P w = .ok () w ∧ (eqGuard .neq t x y (.agg xs.toArray) (.agg ys.toArray)).run P w = .ok () w ∧
          (Op.equal t (.agg xs.toArray) (.agg ys.toArray)).run P w = .ok b w)
    | .array n e k => P.underlying t = some (.array n e) ∧ (P.info? e).map (·.size) = some k.sz ∧ (P.underlying e).map TypeDesc.isRow = some k.isAgg
    | .other => True

def TabOK (P : Program) (tt : TypeId → Option Ty) : Prop := ∀ t ty, tt t = some ty → TyOK P t ty

/-! ### Small things -/
theorem castK_eq {k k' : Kd} {x : k.T} {y : k'.T} (h : castK k' x = some y) : ∃ e : k = k', e ▸ x = y := by
  unfold castK at h
  split at h
  · rename_i hb
    exact ⟨Kd.eq_of_beq hb, by simpa using h⟩
  · cases h

theorem nth_eq {α : Type} : ∀ (l : List α) (i : Nat), nth l i = l[i]?
  | [], _ => by simp [nth]
  | _ :: _, 0 => by simp [nth]
  | _ :: l, n + 1 => by simp [nth, nth_eq l n]

theorem setNth_eq {α : Type} : ∀ (l : List α) (i : Nat) (y : α), setNth l i y = l.set i y
  | [], _, _ => by simp [setNth]
  | _ :: _, 0, _ => by simp [setNth]
  | _ :: l, n + 1, y => by simp [setNth, setNth_eq l n y]

theorem app_eq {α : Type} : ∀ (l m : List α), app l m = l ++ m
  | [], _ => rfl
  | x :: l, m => by simp [app, app_eq l m]

theorem len_eq {α : Type} : ∀ (l : List α), len l = l.length
  | [] => rfl
  | _ :: l => by simp [len, len_eq l]

theorem take_eq {α : Type} : ∀ (n : Nat) (l : List α), take n l = l.take n
  | 0, l => by simp [take]
  | _ + 1, [] => by simp [take]
  | n + 1, x :: l => by simp [take, take_eq n l]

theorem drop_eq {α : Type} : ∀ (n : Nat) (l : List α), drop n l = l.drop n
  | 0, l => by simp [drop]
  | _ + 1, [] => by simp [drop]
  | n + 1, x :: l => by simp [drop, drop_eq n l]

theorem cut_eq {α : Type} {l m : List α} {o n : Nat} (h : cut l o n = some m) : m = (l.drop o).take n ∧ m.length = n := by
  unfold cut at h
  simp only [take_eq, drop_eq, len_eq] at h
  cases hb : Nat.beq ((l.drop o).take n).length n with
  | false => rw [hb] at h; cases h
  | true =>
    rw [hb] at h
    have e : (l.drop o).take n = m := by simpa using h
    exact ⟨e.symm, by rw [← e]; exact Nat.eq_of_beq_eq_true hb⟩

theorem splice_eq {α : Type} : ∀ {l : List α} {o : Nat} {m r : List α}, splice l o m = some r → r = l.take o ++ m ++ l.drop (o + m.length) ∧ (m = [] ∨ o + m.length ≤ l.length)
  | l, o, [], r, h => by
    have e : l = r := by cases l <;> cases o <;> simpa [splice] using h
    subst e
    simp
  | [], o, _ :: _, r, h => by cases o <;> simp [splice] at h
  | x :: l, 0, y :: m, r, h => by
    simp only [splice] at h
    cases hs : splice l 0 m with
    | none => rw [hs] at h; cases h
    | some q =>
      rw [hs] at h
      have e : y :: q = r := by simpa using h
      obtain ⟨e1, e2⟩ := splice_eq hs
      subst e
      refine ⟨by rw [e1]; simp, .inr ?_⟩
      rcases e2 with e2 | e2
      · subst e2; simp
      · simpa using e2
  | x :: l, o + 1, y :: m, r, h => by
    simp only [splice] at h
    cases hs : splice l o (y :: m) with
    | none => rw [hs] at h; cases h
    | some q =>
      rw [hs] at h
      have e : x :: q = r := by simpa using h
      obtain ⟨e1, e2⟩ := splice_eq hs
      subst e
      have e3 : o + 1 + (y :: m).length = (o + (y :: m).length) + 1 := by omega
      refine ⟨by rw [e1, e3]; simp, .inr ?_⟩
      rcases e2 with e2 | e2
      · cases e2
      · simp at e2 ⊢; omega

theorem All2.take {α β : Type} {R : α → β → Prop} : ∀ {l : List α} {m : List β} (n : Nat), All2 R l m → All2 R (l.take n) (m.take n)
  | _, _, 0, _ => by simp; exact .nil
  | _, _, n + 1, .nil => by simp; exact .nil
  | _, _, n + 1, .cons r h => by simp; exact .cons r (h.take n)

theorem All2.drop {α β : Type} {R : α → β → Prop} : ∀ {l : List α} {m : List β} (n : Nat), All2 R l m → All2 R (l.drop n) (m.drop n)
  | _, _, 0, h => by simpa using h
  | _, _, n + 1, .nil => by simp; exact .nil
  | _, _, n + 1, .cons r h => by simp; exact h.drop n

theorem All2.nth {α β : Type} {R : α → β → Prop} : ∀ {l : List α} {m : List β} {i : Nat} {a : α}, All2 R l m → l[i]? = some a → ∃ b, m[i]? = some b ∧ R a b
  | _, _, _, _, .nil, h => by simp at h
  | _, _, 0, _, .cons r _, h => by simp at h; exact ⟨_, by simp, h ▸ r⟩
  | _, _, i + 1, _, .cons _ H, h => by simpa using H.nth (by simpa using h)

theorem known_all : ∀ {ls : List Leaf}, known ls = true → ∀ l ∈ ls, l.known = true
  | [], _, _, h => by cases h
  | x :: r, h, l, hl => by
    simp only [known] at h
    cases hx : x.known with
    | false => rw [hx] at h; cases h
    | true =>
      rw [hx] at h
      rcases List.mem_cons.1 hl with e | e
      · rw [e]; exact hx
      · exact known_all (by simpa using h) l e

section
variable {w : World} {K : KSet} {A : Asg} {h : Heap}

theorem leafs_R : ∀ {k : Kd} {x : k.T} {l : List Value}, Kd.R w K k x l → All2 (LeafR w K A h) (leafs k x) l
  | .int _, _, _, H => by rw [show _ = _ from H]; exact .cons (by exact rfl) .nil
  | .bool, _, _, H => by rw [show _ = _ from H]; exact .cons (by exact rfl) .nil
  | .str, _, _, H => by rw [show _ = _ from H]; exact .cons (by exact rfl) .nil
  | .sl k, x, l, H => by
    obtain ⟨a, c, e, H'⟩ := H
    subst e
    exact .cons ⟨a, c, rfl, H'⟩ .nil
  | .un, _, _, H => by rw [show _ = _ from H]; exact .nil
  | .pr a b, x, _, ⟨l1, l2, e, h1, h2⟩ => by
    rw [e]
    simp only [leafs, app_eq]
    exact (leafs_R h1).app (leafs_R h2)

theorem leafs_known : ∀ {k : Kd} {x : k.T}, ∀ l ∈ leafs k x, l.known = true
  | .int _, _, l, H => by simp [leafs] at H; rw [H]; rfl
  | .bool, _, l, H => by simp [leafs] at H; rw [H]; rfl
  | .str, _, l, H => by simp [leafs] at H; rw [H]; rfl
  | .sl _, _, l, H => by simp [leafs] at H; rw [H]; rfl
  | .un, _, l, H => by simp [leafs] at H
  | .pr a b, x, l, H => by
    simp only [leafs, app_eq, List.mem_append] at H
    rcases H with H | H
    · exact leafs_known l H
    · exact leafs_known l H

theorem leaf_cell {l : Leaf} {v : Value} (H : LeafR w K A h l v) (hk : l.known = true) : v.oneCell' = true := by
  cases l with
  | undef => cases hk
  | hole => cases hk
  | yld _ => cases hk
  | eptr _ _ _ => cases hk
  | kb b => rw [show v = _ from H]; rfl
  | dat k x => exact Kd.R_cell (show Kd.R w K k x [v] from H) v (by simp)
  | clip k xs => exact Kd.R_cell H.1 v (by simp)
  | nn b k xs => exact Kd.R_cell H.1 v (by simp)
  | nils => rw [show v = _ from H]; rfl
  | row id => obtain ⟨_, _, _, _, _, e⟩ := H; rw [e]; rfl
  | vw id sz lo n => obtain ⟨_, _, _, _, _, e, _⟩ := H; rw [e]; rfl
  | ptr id off => rw [H.2]; rfl
  | dptr k x => obtain ⟨_, _, _, _, _, e, _⟩ := H; rw [e]; rfl
  | emp => obtain ⟨_, e⟩ := H; rw [e]; rfl
  | aptr k x => obtain ⟨_, _, _, _, _, e, _⟩ := H; rw [e]; rfl
  | nilp => rw [show v = _ from H]; rfl
  | fn f caps => rw [H.2]; rfl
  | nilf => rw [show v = _ from H]; rfl
end

end Go.Ev
