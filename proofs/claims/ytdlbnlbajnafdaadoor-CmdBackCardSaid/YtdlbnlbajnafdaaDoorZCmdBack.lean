/-
  The law CmdBack of the package backseatlaw21 holds: what is printed is parsed; what is parsed of any text may be, and, printed and parsed again, is the same; blanks ahead and behind change nothing; conditions: none beyond the row's own.
-/
import Derived.Test.YtdlbnlbajnafdaaDoorZq4


set_option linter.unusedVariables false
set_option maxRecDepth 100000
namespace Go.Proofs.YtdlbnlbajnafdaaDoor.cmdBack
open Go.ChangeShapes Go.WideShapes Go.ChangeAt Go.RowKit Go.Ev Go.Lib

theorem kinds : TKs Tryd.prog Tryd.f8.params.toList [(.pr (.int .i64) (.pr (.int .i64) (.pr (.int .i64) (.pr .bool (.pr .str .un))))), .str, (.int .i64), (.int .i64)] := by
  rw [Tryd.params8]
  exact (.cons (.struct Tryd.underlying57 (.cons rfl (.int Tryd.underlying3) (by kernel_rfl) (.cons rfl (.int Tryd.underlying3) (by kernel_rfl) (.cons rfl (.int Tryd.underlying3) (by kernel_rfl) (.cons rfl (.bool Tryd.underlying4) (by kernel_rfl) (.cons rfl (.str Tryd.underlying9) (by kernel_rfl) .nil))))) (by kernel_rfl)) (.cons (.str Tryd.underlying9) (.cons (.int Tryd.underlying3) (.cons (.int Tryd.underlying3) .nil))))

theorem walk (W : World) (hT : Cm.Tabs W) (vs : List Value) (y : tup [(.pr (.int .i64) (.pr (.int .i64) (.pr (.int .i64) (.pr .bool (.pr .str .un))))), .str, (.int .i64), (.int .i64)]) (hv : All2 (AVR W (allK W) noA []) (toAVs _ y) vs) :
    Calls Tryd.prog 8 vs.toArray W fun e w' => e = .returned (.bool true) ∧ W.keptBut w' (fun _ => False) ∧ ∀ b, b < W.heap.size → w'.heap[b]? = W.heap[b]? := by
  have D : Does Fence.wide Tryd.prog Cm.E0 8 (toAVs _ y) [] (bool1 true)   := Cm.wk8 Fence.wide ⟨fun _ => trivial, rfl, rfl⟩ (toAVs _ y) [] (bool1 true) (by rfl)
  refine (D.calls (by intro h; cases h) Tryd.func8 (by kernel_rfl) rfl (Cm.globs hT) hv).mono fun e w' h => ?_
  obtain ⟨v, rfl, hk, hb, _, K', A', hs⟩ := h
  refine ⟨?_, hk, hb⟩
  have : v = .bool true := by
    have h1 : Kd.R w' K' .bool true [v] := hs
    cases h1
    rfl
  rw [this]

theorem laid_met (os : Os) : laidMet Tryd.prog Rows.cmdBackRow.laid ((Cm.laidWorld os).forCall (fun _ _ => 0) ⟨#[], #[.agg #[.int .i64 0, .int .i64 0, .int .i64 0, .bool false, .string ByteArray.empty], .string ByteArray.empty, .int .i64 0, .int .i64 0], []⟩).memory :=
  laidMet_of_run' 8 (by kernel_rfl) (by kernel_rfl)
theorem reads (os : Os) {H : Type} (enc : TypeId × Value → H) : ∃ places, DataW.whole enc Tryd.prog ((Cm.laidWorld os).forCall (fun _ _ => 0) ⟨#[], #[.agg #[.int .i64 0, .int .i64 0, .int .i64 0, .bool false, .string ByteArray.empty], .string ByteArray.empty, .int .i64 0, .int .i64 0], []⟩).memory Tryd.f8.params.toList Rows.cmdBackSpec.vars false (#[.agg #[.int .i64 0, .int .i64 0, .int .i64 0, .bool false, .string ByteArray.empty], .string ByteArray.empty, .int .i64 0, .int .i64 0] : Array Value).toList 8 = some ([.agg [.lit (.int .i64 0), .lit (.int .i64 0), .lit (.int .i64 0), .lit (.bool false), .lit (.string [])], .lit (.string []), .lit (.int .i64 0), .lit (.int .i64 0)], [], places) :=
  ⟨[], by kernel_rfl⟩

theorem lifted (os : Os) (started : os.Started) (H : Type) (enc : TypeId × Value → H) (F : Stop.Interp) :
    ReturnsInHanded {} Tryd.checked os 8 .any ((OpenSpec.ofChange Rows.cmdBackSpec).preRow enc Tryd.prog Tryd.f8 Rows.cmdBackRow.domain false Rows.cmdBackRow.laid) (((OpenSpec.ofChange Rows.cmdBackSpec).at F).post enc Tryd.prog Tryd.f8 false true false false) := by
  obtain ⟨places, hx⟩ := reads os enc
  refine returnsInHanded_of_row (C := Tryd.checked) (s := OpenSpec.ofChange Rows.cmdBackSpec) own started (by kernel_rfl) Tryd.func8
    (witness_row_at (enc := enc) (C := Tryd.checked) false (Cm.laidWorld os) #[.agg #[.int .i64 0, .int .i64 0, .int .i64 0, .bool false, .string ByteArray.empty], .string ByteArray.empty, .int .i64 0, .int .i64 0] rfl (by kernel_rfl) (by kernel_rfl) (by kernel_rfl)
      (OpenSpec.preRow_of_cond 8 hx (by kernel_rfl) (fun k hk => by cases hk) (by kernel_rfl) (laid_met os))) ?_
  intro W base args ds gs before hval0 hW _ _ _ hL _ _
  have hT : Cm.Tabs W := Cm.tabs hL
  have hW' := hW
  obtain ⟨p, q, hA, hV, rfl, hfz, hnd⟩ := hW
  obtain ⟨y, hy, _⟩ := read_args (A := noA) (h := []) kinds (fun j t v ht hv => hval0 j t v (by simpa using ht) (by simpa using hv)) hA
  have hw := walk W hT args.toList y hy
  rw [show args.toList.toArray = args from by simp] at hw
  refine hw.mono fun e W' ⟨he, hk, hb⟩ => ?_
  subst he
  refine ⟨_, rfl, post_law (tb := 4) (by kernel_rfl) (by kernel_rfl) (by kernel_rfl) (by kernel_rfl) hW' rfl (by kernel_rfl) Tryd.underlying4 ?_ hk hb⟩
  intro ds hl
  match ds, hl with
  | [d1, d2, d3, d4], _ => rfl

theorem said : Rows.CmdBackSaid :=
  OpenClaim.holds_of_cond 8 Tryd.f8 rfl rfl rfl rfl rfl rfl rfl ⟨rfl, rfl, rfl, rfl, rfl⟩ rfl rfl rfl rfl rfl (by kernel_rfl) Tryd.func8 (by kernel_rfl)
    (of_decide_eq_true (by kernel_rfl)) (by unfold Func.isWrapper; first | (rw [if_pos (by decide +kernel)]; kernel_rfl) | (rw [if_neg (by decide +kernel)]; exact ⟨rfl, rfl⟩))
    (fun os started H enc _ F => by rw [OpenClaim.pre_eq_preRow]; exact lifted os started H enc F)

theorem plain (f : FuncId) (fn : Func) (hf : Tryd.pinned.checked.prog.funcNamed Rows.cmdBackRow.func = some f) (hfn : Tryd.pinned.checked.prog.funcs[f]? = some fn) :
    true = Tryd.pinned.checked.prog.looks [] ∧ ∀ (j : Nat) t, fn.params[j]? = some t → Tryd.pinned.checked.prog.wantsStandIn t = false := by
  obtain rfl : f = 8 := Option.some.inj ((show Tryd.prog.funcNamed Rows.cmdBackRow.func = some 8 by kernel_rfl).symm.trans hf) |>.symm
  obtain rfl : fn = Tryd.f8 := (Option.some.inj (Tryd.func8.symm.trans hfn)).symm
  refine ⟨by kernel_rfl, fun j t ht => ?_⟩
  rw [Tryd.params8] at ht
  have hm := Array.mem_of_getElem? ht
  simp only [List.mem_toArray, List.mem_cons, List.mem_nil_iff, or_false] at hm
  rcases hm with rfl | rfl | rfl | rfl
  · exact (show Tryd.prog.wantsStandIn 57 = false by kernel_rfl)
  · exact (show Tryd.prog.wantsStandIn 9 = false by kernel_rfl)
  · exact (show Tryd.prog.wantsStandIn 3 = false by kernel_rfl)
  · exact (show Tryd.prog.wantsStandIn 3 = false by kernel_rfl)

theorem card : Rows.CmdBackCardSaid :=
  Claim7.holds_tied_plain_at .later [] _ _ _ _ said (fun _ h => by cases h) (by kernel_rfl) (fun _ h => by cases h) cmdBack_row_tie rfl ⟨rfl, rfl⟩ (by kernel_rfl) rfl plain (by kernel_rfl)
end Go.Proofs.YtdlbnlbajnafdaaDoor.cmdBack
