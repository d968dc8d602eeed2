/-
  WireHurt answers true at every input and leaves its arguments as they were; no condition.
-/
import Derived.Test.YtiongkbkjfgimaaRows
import Derived.Test.YtiongkbkjfgimaaZEvWire14
import Derived.Test.YtiongkbkjfgimaaZEvRead
set_option linter.unusedVariables false
set_option maxRecDepth 100000
namespace Go.Proofs.Ytiongkbkjfgimaa.wireHurt
open Go.ChangeShapes Go.WideShapes Go.ChangeAt Go.RowKit Go.Ev

theorem own : ownKnob Try.prog.godebug = none := by kernel_rfl

theorem kinds : TKs Try.prog Try.f7.params.toList [(.pr (.int .i64) (.pr .str .un)), (.int .i64), (.int .u8)] := by
  rw [Try.params7]
  exact (.cons (.struct Try.underlying36 (.cons rfl (.int Try.underlying3) (by kernel_rfl) (.cons rfl (.str Try.underlying9) (by kernel_rfl) .nil)) (by kernel_rfl)) (.cons (.int Try.underlying3) (.cons (.int Try.underlying5) .nil)))

theorem walk (W : World) (vs : List Value) (y : tup [(.pr (.int .i64) (.pr .str .un)), (.int .i64), (.int .u8)]) (hv : All2 (AVR W (allK W) noA []) (toAVs _ y) vs) (ok : okAll [(.pr (.int .i64) (.pr .str .un)), (.int .i64), (.int .u8)] y) :
    Calls Try.prog 7 vs.toArray W fun e w' => e = .returned (.bool true) ∧ W.keptBut w' (fun _ => False) ∧ ∀ b, b < W.heap.size → w'.heap[b]? = W.heap[b]? := by
  have hc : decide (0 ≤ (y.2.2.1 : Int) ∧ (y.2.2.1 : Int) ≤ 255) = true := by
    have h1 : (Lit.int .u8 y.2.2.1).wf = true := ok.2.2.1
    have h2 : (decide ((0 : Int) ≤ (y.2.2.1 : Int)) && decide ((y.2.2.1 : Int) ≤ (255 : Int))) = true := h1
    simpa using h2
  have D : Does Fence.wide Try.prog E0 7 (toAVs _ y) [] { c := some (decide (0 ≤ (y.2.2.1 : Int) ∧ (y.2.2.1 : Int) ≤ 255)), rs := one (.dat .bool true) } := wk7 Fence.wide ⟨fun _ => trivial, rfl⟩ (toAVs _ y) [] _ (by rfl)
  refine (D.calls (by rw [hc]; intro h; cases h) Try.func7 (by kernel_rfl) rfl (fun g p h => by cases h) hv).mono fun e w' h => ?_
  obtain ⟨v, rfl, hk, hb, _, K', A', hs⟩ := h
  refine ⟨?_, hk, hb⟩
  have : v = .bool true := by
    have h1 : Kd.R w' K' .bool true [v] := hs
    cases h1
    rfl
  rw [this]

theorem lifted (os : Os) (started : os.Started) (H : Type) (enc : TypeId × Value → H) :
    ReturnsInHanded {} Try.checked os 7 .any (Rows.wireHurtSpec.pre6 enc Try.prog Try.f7 Rows.wireHurtRow.domain false) (Rows.wireHurtSpec.post enc Try.prog Try.f7 false true false false) := by
  refine returnsInHanded_of_change (C := Try.checked) own started (by kernel_rfl) Try.func7
    (ChangeSpec.witness6 (enc := enc) (C := Try.checked) false ⟨#[], #[.agg #[.int .i64 0, .string ByteArray.empty], .int .i64 0, .int .u8 0], []⟩ 8 (by kernel_rfl) (by kernel_rfl) (by kernel_rfl) (by kernel_rfl)) ?_
  intro W base args ds gs before hval0 hW hcnd _
  have hW' := hW
  obtain ⟨p, q, hA, hV, rfl, hfz, hnd⟩ := hW
  obtain ⟨y, hy, hok⟩ := read_args (A := noA) (h := []) kinds (fun j t v ht hv => hval0 j t v (by simpa using ht) (by simpa using hv)) hA
  have hw := walk W args.toList y hy hok
  rw [show args.toList.toArray = args from by simp] at hw
  refine hw.mono fun e W' ⟨he, hk, hb⟩ => ?_
  subst he
  refine ⟨_, rfl, post_law (tb := 4) (by kernel_rfl) (by kernel_rfl) (by kernel_rfl) (by kernel_rfl) hW' rfl (by kernel_rfl) Try.underlying4 ?_ hk hb⟩
  intro ds hl
  match ds, hl with
  | [d1, d2, d3], _ => rfl

theorem over : Rows.wireHurtRow.holds Try.pinned (OpenSpec.ofChange Rows.wireHurtSpec) :=
  OpenClaim.holds_of_wide 7 Try.f7 rfl rfl rfl rfl rfl rfl rfl ⟨rfl, rfl, rfl, rfl, rfl⟩ rfl rfl rfl rfl rfl (by kernel_rfl) Try.func7 (by kernel_rfl)
    (of_decide_eq_true (by kernel_rfl)) (by unfold Func.isWrapper; first | (rw [if_pos (by decide +kernel)]; kernel_rfl) | (rw [if_neg (by decide +kernel)]; exact ⟨rfl, rfl⟩))
    (fun os started H enc _ => lifted os started H enc)

theorem proved : Rows.WireHurtSaid := over
end Go.Proofs.Ytiongkbkjfgimaa.wireHurt
