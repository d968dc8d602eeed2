/-
  Lines without wide letters that flow to another width, and back to one, say the same, line by line, but for blanks at their ends.
-/
import Derived.Test.YtmnbcnhpklejcaaDoorZq4

set_option linter.unusedVariables false
set_option maxRecDepth 100000
namespace Go.Proofs.YtmnbcnhpklejcaaDoor.flowTurns
open Go.ChangeShapes Go.WideShapes Go.ChangeAt Go.RowKit Go.Ev Go.Lib

theorem kinds : TKs Tryd.prog Tryd.f13.params.toList [(.sl (.pr (.sl (.pr .str (.pr (.int .i64) (.pr (.pr (.int .i64) (.pr (.int .i64) (.pr (.int .i64) .un))) .un)))) (.pr .bool .un))), (.int .i64), (.int .i64)] := by
  rw [Tryd.params13]
  exact (.cons (.sl Tryd.underlying22 (.struct Tryd.underlying34 (.cons rfl (.sl Tryd.underlying32 (.struct Tryd.underlying48 (.cons rfl (.str Tryd.underlying9) (by kernel_rfl) (.cons rfl (.int Tryd.underlying3) (by kernel_rfl) (.cons rfl (.struct Tryd.underlying46 (.cons rfl (.int Tryd.underlying3) (by kernel_rfl) (.cons rfl (.int Tryd.underlying3) (by kernel_rfl) (.cons rfl (.int Tryd.underlying3) (by kernel_rfl) .nil))) (by kernel_rfl)) (by kernel_rfl) .nil))) (by kernel_rfl)) (by kernel_rfl) (by decide)) (by kernel_rfl) (.cons rfl (.bool Tryd.underlying4) (by kernel_rfl) .nil)) (by kernel_rfl)) (by kernel_rfl) (by decide)) (.cons (.int Tryd.underlying3) (.cons (.int Tryd.underlying3) .nil)))

theorem walk (W : World) (hT : Utf8Tabs 0 1 W) (vs : List Value) (y : tup [(.sl (.pr (.sl (.pr .str (.pr (.int .i64) (.pr (.pr (.int .i64) (.pr (.int .i64) (.pr (.int .i64) .un))) .un)))) (.pr .bool .un))), (.int .i64), (.int .i64)]) (hv : All2 (AVR W (allK W) noA []) (toAVs _ y) vs) :
    Calls Tryd.prog 13 vs.toArray W fun e w' => e = .returned (.bool true) ∧ W.keptBut w' (fun _ => False) ∧ ∀ b, b < W.heap.size → w'.heap[b]? = W.heap[b]? := by
  have D : Does Fence.wide Tryd.prog E0 13 (toAVs _ y) [] (bool1 true) := wk13 Fence.wide ⟨fun _ => trivial, rfl⟩ (toAVs _ y) [] (bool1 true) (by rfl)
  refine (D.calls (by intro h; cases h) Tryd.func13 (by kernel_rfl) rfl (globs hT) hv).mono fun e w' h => ?_
  obtain ⟨v, rfl, hk, hb, _, K', A', hs⟩ := h
  refine ⟨?_, hk, hb⟩
  have : v = .bool true := by
    have h1 : Kd.R w' K' .bool true [v] := hs
    cases h1
    rfl
  rw [this]

theorem laid_met (os : Os) : laidMet Tryd.prog Rows.flowTurnsRow.laid ((laidWorld os).forCall (fun _ _ => 0) ⟨#[], #[.slice none 0 0, .int .i64 0, .int .i64 0], []⟩).memory :=
  laidMet_of_run' 8 (by kernel_rfl) (by kernel_rfl)
theorem reads (os : Os) {H : Type} (enc : TypeId × Value → H) : ∃ places, DataW.whole enc Tryd.prog ((laidWorld os).forCall (fun _ _ => 0) ⟨#[], #[.slice none 0 0, .int .i64 0, .int .i64 0], []⟩).memory Tryd.f13.params.toList Rows.flowTurnsSpec.vars false (#[.slice none 0 0, .int .i64 0, .int .i64 0] : Array Value).toList 8 = some ([.nil, .lit (.int .i64 0), .lit (.int .i64 0)], [], places) :=
  ⟨[], by kernel_rfl⟩

theorem lifted (os : Os) (started : os.Started) (H : Type) (enc : TypeId × Value → H) (F : Stop.Interp) :
    ReturnsInHanded {} Tryd.checked os 13 .any ((OpenSpec.ofChange Rows.flowTurnsSpec).preRow enc Tryd.prog Tryd.f13 Rows.flowTurnsRow.domain false Rows.flowTurnsRow.laid) (((OpenSpec.ofChange Rows.flowTurnsSpec).at F).post enc Tryd.prog Tryd.f13 false true false false) := by
  obtain ⟨places, hx⟩ := reads os enc
  refine returnsInHanded_of_row (C := Tryd.checked) (s := OpenSpec.ofChange Rows.flowTurnsSpec) own started (by kernel_rfl) Tryd.func13
    (witness_row_at (enc := enc) (C := Tryd.checked) false (laidWorld os) #[.slice none 0 0, .int .i64 0, .int .i64 0] rfl (by kernel_rfl) (by kernel_rfl) (by kernel_rfl)
      (OpenSpec.preRow_of_cond 8 hx (by kernel_rfl) (fun k hk => by cases hk) (by kernel_rfl) (laid_met os))) ?_
  intro W base args ds gs before hval0 hW _ _ _ hL _ _
  have hT : Utf8Tabs 0 1 W := tabs hL
  have hW' := hW
  obtain ⟨p, q, hA, hV, rfl, hfz, hnd⟩ := hW
  obtain ⟨y, hy, _⟩ := read_args (A := noA) (h := []) kinds (fun j t v ht hv => hval0 j t v (by simpa using ht) (by simpa using hv)) hA
  have hw := walk W hT args.toList y hy
  rw [show args.toList.toArray = args from by simp] at hw
  refine hw.mono fun e W' ⟨he, hk, hb⟩ => ?_
  subst he
  refine ⟨_, rfl, post_law (tb := 4) (by kernel_rfl) (by kernel_rfl) (by kernel_rfl) (by kernel_rfl) hW' rfl (by kernel_rfl) Tryd.underlying4 ?_ hk hb⟩
  intro ds hl
  match ds, hl with
  | [d1, d2, d3], _ => rfl

theorem said : Rows.FlowTurnsSaid :=
  OpenClaim.holds_of_cond 13 Tryd.f13 rfl rfl rfl rfl rfl rfl rfl ⟨rfl, rfl, rfl, rfl, rfl⟩ rfl rfl rfl rfl rfl (by kernel_rfl) Tryd.func13 (by kernel_rfl)
    (of_decide_eq_true (by kernel_rfl)) (by unfold Func.isWrapper; first | (rw [if_pos (by decide +kernel)]; kernel_rfl) | (rw [if_neg (by decide +kernel)]; exact ⟨rfl, rfl⟩))
    (fun os started H enc _ F => by rw [OpenClaim.pre_eq_preRow]; exact lifted os started H enc F)

theorem plain (f : FuncId) (fn : Func) (hf : Tryd.pinned.checked.prog.funcNamed Rows.flowTurnsRow.func = some f) (hfn : Tryd.pinned.checked.prog.funcs[f]? = some fn) :
    false = Tryd.pinned.checked.prog.looks [] ∧ ∀ (j : Nat) t, fn.params[j]? = some t → Tryd.pinned.checked.prog.wantsStandIn t = false := by
  obtain rfl : f = 13 := Option.some.inj ((show Tryd.prog.funcNamed Rows.flowTurnsRow.func = some 13 by kernel_rfl).symm.trans hf) |>.symm
  obtain rfl : fn = Tryd.f13 := (Option.some.inj (Tryd.func13.symm.trans hfn)).symm
  refine ⟨by kernel_rfl, fun j t ht => ?_⟩
  rw [Tryd.params13] at ht
  have hm := Array.mem_of_getElem? ht
  simp only [List.mem_toArray, List.mem_cons, List.mem_nil_iff, or_false] at hm
  rcases hm with rfl | rfl | rfl
  · exact (show Tryd.prog.wantsStandIn 22 = false by kernel_rfl)
  · exact (show Tryd.prog.wantsStandIn 3 = false by kernel_rfl)
  · exact (show Tryd.prog.wantsStandIn 3 = false by kernel_rfl)

theorem card : Rows.FlowTurnsCardSaid :=
  Claim7.holds_tied_plain_at .later [] _ _ _ _ said (fun _ h => by cases h) (by kernel_rfl) (fun _ h => by cases h) flowTurns_row_tie rfl ⟨rfl, rfl⟩ (by kernel_rfl) rfl plain (by kernel_rfl)
end Go.Proofs.YtmnbcnhpklejcaaDoor.flowTurns
