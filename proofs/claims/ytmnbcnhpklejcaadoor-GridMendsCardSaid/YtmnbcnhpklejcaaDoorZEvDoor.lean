/- The two tables of letters, at a row's door. -/
import Derived.Test.YtmnbcnhpklejcaaDoorZEvUtf0
import Derived.Test.YtmnbcnhpklejcaaDoorTie
import Derived.Test.YtmnbcnhpklejcaaDoorCards
import Derived.Test.YtmnbcnhpklejcaaDoorZEvRead
import Derived.Lib.LaidU8T
import Derived.PinnedBridge
import Derived.WalkKit
import Derived.ProofKit
import Derived.OpenShut
import Derived.Deep.DeepHandedRow
set_option linter.unusedVariables false
set_option maxRecDepth 100000
namespace Go.Proofs.YtmnbcnhpklejcaaDoor
open Go.ChangeShapes Go.WideShapes Go.ChangeAt Go.RowKit Go.Ev Go.Lib Go.Shelf

def bool1 (b : Bool) : SRes := { rs := one (.dat .bool b) }
theorem own : ownKnob Tryd.prog.godebug = none := by kernel_rfl
def ρ8 : Ren := ⟨fun x => x, fun x => if x = 119 then 184 else if x = 138 then 186 else if x = 139 then 187 else x, fun x => x - 3⟩
theorem ty8 : U8Types Tryd.prog ρ8 := ⟨Tryd.underlying5, Tryd.underlying184, Tryd.underlying186, Tryd.underlying187⟩
theorem ex8 : U8Extra Tryd.prog ρ8 := ⟨by kernel_rfl, by kernel_rfl, by kernel_rfl, by kernel_rfl, by kernel_rfl, by kernel_rfl, by kernel_rfl⟩
def laidL : List (String × DataW Unit) := [("unicode/utf8.acceptRanges", Rows.laid_unicode_utf8_acceptRanges), ("unicode/utf8.first", Rows.laid_unicode_utf8_first)]
theorem acc_eq : (Rows.laid_unicode_utf8_acceptRanges : DataW Unit) = acceptData := by kernel_rfl
theorem fst_eq : Rows.laid_unicode_utf8_first = firstData := by kernel_rfl
theorem tabs {W : World} (h : laidMetH Tryd.prog laidL W) : Utf8Tabs 0 1 W := by
  have h' : laidMet Tryd.prog laidL W := h
  have r1 := laidMet.reads h' (n := "unicode/utf8.first") (d := Rows.laid_unicode_utf8_first) (by simp [laidL])
  have r2 := laidMet.reads h' (n := "unicode/utf8.acceptRanges") (d := Rows.laid_unicode_utf8_acceptRanges) (by simp [laidL])
  rw [fst_eq] at r1
  rw [acc_eq] at r2
  exact utf8Tabs_of_readsT ty8 ex8 r1 r2

theorem cells_of {W : World} {g : Nat} {i : Nat} {v : Value} (h : W.cell? ⟨g, i, none⟩ = some v) : ∃ cs t fr, W.heap[g]? = some (.cells cs t fr) := by
  unfold World.cell? at h
  split at h
  · rename_i c t fr hc
    exact ⟨c, t, fr, hc⟩
  · cases h
theorem cell_at {W : World} {g : Nat} {cs : Array Value} {t : TypeId} {fr : Nat × Nat} (hc : W.heap[g]? = some (.cells cs t fr)) {i : Nat} {v : Value} (h : W.cell? ⟨g, i, none⟩ = some v) : cs.toList[i]? = some v := by
  unfold World.cell? at h
  rw [hc] at h
  simpa using h

theorem globs {W : World} (h : Utf8Tabs 0 1 W) : ∀ g p, E0.glob g = some p → LeafR W (allK W) noA [] p.leaf (.pointer (some ⟨g, 0, none⟩)) := by
  intro g p hp
  have hp : gl g = some p := hp
  unfold gl at hp
  cases h0 : Nat.beq g 0 with
  | true =>
    rw [h0] at hp
    cases hp
    have e := Nat.eq_of_beq_eq_true h0
    subst e
    obtain ⟨cs, t, fr, hc⟩ := cells_of (h.1 0 (by omega))
    refine ⟨0, 0, cs, t, fr, rfl, (Array.getElem?_eq_some_iff.1 hc).1, hc, fun i hi => ?_⟩
    have hi : i < 256 := hi
    have h1 := cell_at hc (h.1 i hi)
    show cellsAt cs (0 + i * 1) 1 = [.int .u8 (U.firstL.getD i 0)]
    have e : U.firstL.getD i 0 = firstT i := by
      unfold U.firstL
      rw [List.getD_eq_getElem?_getD, List.getElem?_map, List.getElem?_range hi]
      rfl
    rw [e]
    unfold cellsAt
    rw [Nat.zero_add, Nat.mul_one, List.drop_eq_getElem_cons (List.getElem?_eq_some_iff.1 h1).1, List.take_succ_cons, List.take_zero, (List.getElem?_eq_some_iff.1 h1).2]
  | false =>
    rw [h0] at hp
    cases h1 : Nat.beq g 1 with
    | false => rw [h1] at hp; cases hp
    | true =>
      rw [h1] at hp
      cases hp
      have e := Nat.eq_of_beq_eq_true h1
      subst e
      obtain ⟨cs, t, fr, hc⟩ := cells_of (h.2 0 (by omega)).1
      refine ⟨1, 0, cs, t, fr, rfl, (Array.getElem?_eq_some_iff.1 hc).1, hc, fun i hi => ?_⟩
      have hi : i < 16 := hi
      have a1 := cell_at hc (h.2 i hi).1
      have a2 := cell_at hc (h.2 i hi).2
      have e : U.accL.getD i (Kd.dflt acck) = ((accLo i : Int), (accHi i : Int), ()) := by
        unfold U.accL
        rw [List.getD_eq_getElem?_getD, List.getElem?_map, List.getElem?_range hi]
        rfl
      show Kd.R W (allK W) acck (U.accL.getD i (Kd.dflt acck)) (cellsAt cs (0 + i * 2) 2)
      rw [e]
      have b1 := List.getElem?_eq_some_iff.1 a1
      have b2 := List.getElem?_eq_some_iff.1 a2
      have hcs : cellsAt cs (0 + i * 2) 2 = [.int .u8 (accLo i), .int .u8 (accHi i)] := by
        unfold cellsAt
        rw [Nat.zero_add, Nat.mul_comm i 2, List.drop_eq_getElem_cons b1.1, List.take_succ_cons, List.drop_eq_getElem_cons b2.1, List.take_succ_cons, List.take_zero, b1.2, b2.2]
      rw [hcs]
      exact ⟨[.int .u8 (accLo i)], [.int .u8 (accHi i)], rfl, rfl, [.int .u8 (accHi i)], [], rfl, rfl, rfl⟩

def lay0 : Obj → Obj
  | .cells _ t frozen => .cells ((List.range 256).map fun i => Value.int .u8 (firstT i)).toArray t frozen
  | o => o
def lay1 : Obj → Obj
  | .cells _ t frozen => .cells ((List.range 16).flatMap fun i => [Value.int .u8 (accLo i), Value.int .u8 (accHi i)]).toArray t frozen
  | o => o
/-- A world that holds the two tables. -/
noncomputable def laidWorld (os : Os) : World :=
  { World.holding Tryd.prog os ⟨#[], #[], []⟩ with heap := ((World.holding Tryd.prog os ⟨#[], #[], []⟩).heap.modify 0 lay0).modify 1 lay1 }
end Go.Proofs.YtmnbcnhpklejcaaDoor
