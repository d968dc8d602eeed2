/-
  WireBack answers true at every input and leaves its arguments as they were; no condition.
-/
import Derived.Test.YtiongkbkjfgimaaRows
import Derived.Test.YtiongkbkjfgimaaZEvWire13
import Derived.Test.YtiongkbkjfgimaaZEvRead
set_option linter.unusedVariables false
set_option maxRecDepth 100000
namespace Go.Proofs.Ytiongkbkjfgimaa.wireBack
open Go.ChangeShapes Go.WideShapes Go.ChangeAt Go.RowKit Go.Ev

theorem own : ownKnob Try.prog.godebug = none := by kernel_rfl

theorem kinds : TKs Try.prog Try.f6.params.toList [(.sl (.pr (.int .i64) (.pr .str .un))), (.sl (.int .i64))] := by
  rw [Try.params6]
  exact (.cons (.sl Try.underlying42 (.struct Try.underlying36 (.cons rfl (.int Try.underlying3) (by kernel_rfl) (.cons rfl (.str Try.underlying9) (by kernel_rfl) .nil)) (by kernel_rfl)) (by kernel_rfl) (by decide)) (.cons (.sl Try.underlying54 (.int Try.underlying3) (by kernel_rfl) (by decide)) .nil))

theorem walk (W : World) (vs : List Value) (y : tup [(.sl (.pr (.int .i64) (.pr .str .un))), (.sl (.int .i64))]) (hv : All2 (AVR W (allK W) noA []) (toAVs _ y) vs) :
    Calls Try.prog 6 vs.toArray W fun e w' => e = .returned (.bool true) ∧ W.keptBut w' (fun _ => False) ∧ ∀ b, b < W.heap.size → w'.heap[b]? = W.heap[b]? := by
  have D : Does Fence.wide Try.prog E0 6 (toAVs _ y) [] (bool1 true) := wk6 Fence.wide ⟨fun _ => trivial, rfl⟩ (toAVs _ y) [] (bool1 true) (by rfl)
  refine (D.calls (by intro h; cases h) Try.func6 (by kernel_rfl) rfl (fun g p h => by cases h) hv).mono fun e w' h => ?_
  obtain ⟨v, rfl, hk, hb, _, K', A', hs⟩ := h
  refine ⟨?_, hk, hb⟩
  have : v = .bool true := by
    have h1 : Kd.R w' K' .bool true [v] := hs
    cases h1
    rfl
  rw [this]

theorem lifted (os : Os) (started : os.Started) (H : Type) (enc : TypeId × Value → H) :
    ReturnsInHanded {} Try.checked os 6 .any (Rows.wireBackSpec.pre6 enc Try.prog Try.f6 Rows.wireBackRow.domain false) (Rows.wireBackSpec.post enc Try.prog Try.f6 false true false false) := by
  refine returnsInHanded_of_change (C := Try.checked) own started (by kernel_rfl) Try.func6
    (ChangeSpec.witness6 (enc := enc) (C := Try.checked) false ⟨#[], #[.slice none 0 0, .slice none 0 0], []⟩ 8 (by kernel_rfl) (by kernel_rfl) (by kernel_rfl) (by kernel_rfl)) ?_
  intro W base args ds gs before hval0 hW hcnd _
  have hW' := hW
  obtain ⟨p, q, hA, hV, rfl, hfz, hnd⟩ := hW
  obtain ⟨y, hy, _⟩ := read_args (A := noA) (h := []) kinds (fun j t v ht hv => hval0 j t v (by simpa using ht) (by simpa using hv)) hA
  have hw := walk W args.toList y hy
  rw [show args.toList.toArray = args from by simp] at hw
  refine hw.mono fun e W' ⟨he, hk, hb⟩ => ?_
  subst he
  refine ⟨_, rfl, post_law (tb := 4) (by kernel_rfl) (by kernel_rfl) (by kernel_rfl) (by kernel_rfl) hW' rfl (by kernel_rfl) Try.underlying4 ?_ hk hb⟩
  intro ds hl
  match ds, hl with
  | [d1, d2], _ => rfl

theorem over : Rows.wireBackRow.holds Try.pinned (OpenSpec.ofChange Rows.wireBackSpec) :=
  OpenClaim.holds_of_wide 6 Try.f6 rfl rfl rfl rfl rfl rfl rfl ⟨rfl, rfl, rfl, rfl, rfl⟩ rfl rfl rfl rfl rfl (by kernel_rfl) Try.func6 (by kernel_rfl)
    (of_decide_eq_true (by kernel_rfl)) (by unfold Func.isWrapper; first | (rw [if_pos (by decide +kernel)]; kernel_rfl) | (rw [if_neg (by decide +kernel)]; exact ⟨rfl, rfl⟩))
    (fun os started H enc _ => lifted os started H enc)

theorem proved : Rows.WireBackSaid := over
end Go.Proofs.Ytiongkbkjfgimaa.wireBack
