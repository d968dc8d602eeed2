/- The table of types; a call at the program's door. -/
import Derived.Test.YtmnbcnhpklejcaaDoorZEvFun
import Derived.Laws.StructEq
import Derived.ProofKit
set_option linter.unusedVariables false
namespace Go.Ev
open Go.RowKit

def tabOf : List (Nat × Ty) → TypeId → Option Ty
  | [], _ => none
  | p :: l, t => bif Nat.beq t p.1 then some p.2 else tabOf l t

inductive AllTy (P : Program) : List (Nat × Ty) → Prop
  | nil : AllTy P []
  | cons {n : Nat} {ty : Ty} {l : List (Nat × Ty)} : TyOK P n ty → AllTy P l → AllTy P ((n, ty) :: l)

theorem tab_of {P : Program} : ∀ {l : List (Nat × Ty)}, AllTy P l → TabOK P (tabOf l)
  | _, .nil => fun t ty h => by cases h
  | _, .cons (n := n) (ty := ty0) (l := l) h0 H => fun t ty h => by
    simp only [tabOf] at h
    cases e : Nat.beq t n with
    | true =>
      rw [e] at h
      cases h
      rw [Nat.eq_of_beq_eq_true e]
      exact h0
    | false =>
      rw [e] at h
      exact tab_of H t ty h

section
variable {P : Program} {d : Nat} {xs ys : Array Value} {f : Field} {fs : List Field} {a b : Value} {r s : Bool} {w : World}
theorem eq_str {t : TypeId} (hu : P.underlying t = some .string) (x y : ByteArray) : (Op.equalIn (d + 1) t (.string x) (.string y)).run P w = .ok (decide (x = y)) w := by
  have e : (x == y) = decide (x = y) := by
    have e1 : (x == y) = (x.data == y.data) := rfl
    rw [e1]
    by_cases h : x = y
    · subst h; simp
    · have : x.data ≠ y.data := fun e => h (by cases x; cases y; simp_all)
      simp [h, this]
  simp [Op.equalIn, run_underlying hu, e]

theorem eqf_last (hn : (f.name == "_") = false) (ha : (part f.type xs f.offset).run P w = .ok a w) (hb : (part f.type ys f.offset).run P w = .ok b w) (he : (Op.equalIn d f.type a b).run P w = .ok r w) : (Op.eqFields d xs ys [f]).run P w = .ok r w := by
  have hn' : f.name ≠ "_" := by simpa using hn
  simp only [Op.eqFields, if_pos hn', Sem.run_bind, ha, hb, he, Result.andThen_ok]
  cases r <;> simp
theorem eqf_cons (hn : (f.name == "_") = false) (ha : (part f.type xs f.offset).run P w = .ok a w) (hb : (part f.type ys f.offset).run P w = .ok b w) (he : (Op.equalIn d f.type a b).run P w = .ok r w) (hr : (Op.eqFields d xs ys fs).run P w = .ok s w) : (Op.eqFields d xs ys (f :: fs)).run P w = .ok (r && s) w := by
  have hn' : f.name ≠ "_" := by simpa using hn
  rw [Op.eqFields]
  simp only [if_pos hn', Sem.run_bind, ha, hb, he, Result.andThen_ok]
  cases r
  · simp
  · simpa using hr
theorem eqA_of {t : TypeId} {fs : Array Field} (hu : P.underlying t = some (.struct fs)) (hp : P.stoodInHeld t = false) (h : (Op.eqFields d xs ys fs.toList).run P w = .ok r w) : (Op.equalIn (d + 1) t (.agg xs) (.agg ys)).run P w = .ok r w := by
  have hf : P.fieldsOf t = fs := by simp [Program.fieldsOf, hu]
  rw [run_equalIn_struct (P := P) w d t xs ys (by rw [hf]; exact hu) hp, hf]
  exact h
end

/-- Every block that is there may be read. -/
def allK (w : World) : KSet := fun b => b < w.heap.size

def noA : Asg := { m := fun _ => 0, hd := fun _ => undef }

/-- **AT THE DOOR.** A contract without blocks that are lent: what was there stays. -/
theorem Does.calls {P : Program} {E : Env} {f : FuncId} {fn : Func} {c : Code} {args : List AV} {vs : List Value} {r : SRes} {w : World} (h : Does Fence.wide P E f args [] r) (hc : r.c ≠ some false)
    (hf : P.funcs[f]? = some fn) (hname : (fn.name == "runtime.NumGoroutine") = false) (hb : fn.body = some c)
    (hg : ∀ g p, E.glob g = some p → LeafR w (allK w) noA [] p.leaf (.pointer (some ⟨g, 0, none⟩)))
    (hv : All2 (AVR w (allK w) noA []) args vs) :
    Calls P f vs.toArray w fun e w' => ∃ v, e = .returned v ∧ w.keptBut w' (fun _ => False) ∧ (∀ b, b < w.heap.size → w'.heap[b]? = w.heap[b]?) ∧ w.heap.size ≤ w'.heap.size ∧
      ∃ K' A', SlotR w' K' A' (zipN 0 (r.upd ++ r.new)) r.rs v := by
  have H : HR (Ctx.call E w (allK w) noA (zipN 0 [])) w (allK w) noA (zipN 0 []) := by
    refine ⟨fun id b hb => by simp [zipN, Heap.get] at hb, fun id id' hu => absurd (uses_has hu) (by simp [Ev.has, zipN, Heap.get]), fun id hu => absurd (uses_has hu) (by simp [Ev.has, zipN, Heap.get]), fun b hb => ⟨hb, .inl hb⟩, fun b hb => hb, hg, rfl, rfl, rfl, Nat.le_refl _, fun _ _ _ => rfl⟩
  rcases h hc w (allK w) noA vs H hv with ⟨v, w', hrun, _⟩ | ⟨_, hcalls⟩
  · rw [MuLone.run_callFunc_enter hf hname hb] at hrun
    cases hrun
  · refine Calls.mono (callsIn_wide.1 hcalls) fun e w' ⟨v, he, K', A', H', X', S', _⟩ => ?_
    have hsame : ∀ b, b < w.heap.size → w'.heap[b]? = w.heap[b]? := fun b hb => H'.frame b hb fun ⟨j, hu, _⟩ => absurd (uses_has hu) (by simp [Ev.has, zipN, Heap.get])
    refine ⟨v, he, ⟨H'.os, H'.output, fun i hi => ?_⟩, hsame, H'.size, K', A', S'⟩
    rw [hsame i hi]
    split <;> simp_all
end Go.Ev
