/-
  The law CmdParses of the package backseatlaw21 holds: any text is read as just that command, or refused, as the document says; conditions: none beyond the row's own.
-/
import Derived.Test.YtdlbnlbajnafdaaDoorZq4

set_option linter.unusedVariables false
set_option maxRecDepth 100000
namespace Go.Proofs.YtdlbnlbajnafdaaDoor.cmdParses
open Go.ChangeShapes Go.WideShapes Go.ChangeAt Go.RowKit Go.Ev Go.Lib

theorem kinds : TKs Tryd.prog Tryd.f6.params.toList [.str] := by
  rw [Tryd.params6]
  exact (.cons (.str Tryd.underlying9) .nil)

theorem walk (W : World) (hT : Cm.Tabs W) (vs : List Value) (y : tup [.str]) (hv : All2 (AVR W (allK W) noA []) (toAVs _ y) vs) :
    Calls Tryd.prog 6 vs.toArray W fun e w' => e = .returned (.bool true) ∧ W.keptBut w' (fun _ => False) ∧ ∀ b, b < W.heap.size → w'.heap[b]? = W.heap[b]? := by
  have D : Does Fence.wide Tryd.prog Cm.E0 6 (toAVs _ y) [] (bool1 true)   := Cm.wk6 Fence.wide ⟨fun _ => trivial, rfl, rfl⟩ (toAVs _ y) [] (bool1 true) (by rfl)
  refine (D.calls (by intro h; cases h) Tryd.func6 (by kernel_rfl) rfl (Cm.globs hT) hv).mono fun e w' h => ?_
  obtain ⟨v, rfl, hk, hb, _, K', A', hs⟩ := h
  refine ⟨?_, hk, hb⟩
  have : v = .bool true := by
    have h1 : Kd.R w' K' .bool true [v] := hs
    cases h1
    rfl
  rw [this]

theorem laid_met (os : Os) : laidMet Tryd.prog Rows.cmdParsesRow.laid ((Cm.laidWorld os).forCall (fun _ _ => 0) ⟨#[], #[.string ByteArray.empty], []⟩).memory :=
  laidMet_of_run' 8 (by kernel_rfl) (by kernel_rfl)
theorem reads (os : Os) {H : Type} (enc : TypeId × Value → H) : ∃ places, DataW.whole enc Tryd.prog ((Cm.laidWorld os).forCall (fun _ _ => 0) ⟨#[], #[.string ByteArray.empty], []⟩).memory Tryd.f6.params.toList Rows.cmdParsesSpec.vars false (#[.string ByteArray.empty] : Array Value).toList 8 = some ([.lit (.string [])], [], places) :=
  ⟨[], by kernel_rfl⟩

theorem lifted (os : Os) (started : os.Started) (H : Type) (enc : TypeId × Value → H) (F : Stop.Interp) :
    ReturnsInHanded {} Tryd.checked os 6 .any ((OpenSpec.ofChange Rows.cmdParsesSpec).preRow enc Tryd.prog Tryd.f6 Rows.cmdParsesRow.domain false Rows.cmdParsesRow.laid) (((OpenSpec.ofChange Rows.cmdParsesSpec).at F).post enc Tryd.prog Tryd.f6 false true false false) := by
  obtain ⟨places, hx⟩ := reads os enc
  refine returnsInHanded_of_row (C := Tryd.checked) (s := OpenSpec.ofChange Rows.cmdParsesSpec) own started (by kernel_rfl) Tryd.func6
    (witness_row_at (enc := enc) (C := Tryd.checked) false (Cm.laidWorld os) #[.string ByteArray.empty] rfl (by kernel_rfl) (by kernel_rfl) (by kernel_rfl)
      (OpenSpec.preRow_of_cond 8 hx (by kernel_rfl) (fun k hk => by cases hk) (by kernel_rfl) (laid_met os))) ?_
  intro W base args ds gs before hval0 hW _ _ _ hL _ _
  have hT : Cm.Tabs W := Cm.tabs hL
  have hW' := hW
  obtain ⟨p, q, hA, hV, rfl, hfz, hnd⟩ := hW
  obtain ⟨y, hy, _⟩ := read_args (A := noA) (h := []) kinds (fun j t v ht hv => hval0 j t v (by simpa using ht) (by simpa using hv)) hA
  have hw := walk W hT args.toList y hy
  rw [show args.toList.toArray = args from by simp] at hw
  refine hw.mono fun e W' ⟨he, hk, hb⟩ => ?_
  subst he
  refine ⟨_, rfl, post_law (tb := 4) (by kernel_rfl) (by kernel_rfl) (by kernel_rfl) (by kernel_rfl) hW' rfl (by kernel_rfl) Tryd.underlying4 ?_ hk hb⟩
  intro ds hl
  match ds, hl with
  | [d1], _ => rfl

theorem said : Rows.CmdParsesSaid :=
  OpenClaim.holds_of_cond 6 Tryd.f6 rfl rfl rfl rfl rfl rfl rfl ⟨rfl, rfl, rfl, rfl, rfl⟩ rfl rfl rfl rfl rfl (by kernel_rfl) Tryd.func6 (by kernel_rfl)
    (of_decide_eq_true (by kernel_rfl)) (by unfold Func.isWrapper; first | (rw [if_pos (by decide +kernel)]; kernel_rfl) | (rw [if_neg (by decide +kernel)]; exact ⟨rfl, rfl⟩))
    (fun os started H enc _ F => by rw [OpenClaim.pre_eq_preRow]; exact lifted os started H enc F)

theorem plain (f : FuncId) (fn : Func) (hf : Tryd.pinned.checked.prog.funcNamed Rows.cmdParsesRow.func = some f) (hfn : Tryd.pinned.checked.prog.funcs[f]? = some fn) :
    true = Tryd.pinned.checked.prog.looks [] ∧ ∀ (j : Nat) t, fn.params[j]? = some t → Tryd.pinned.checked.prog.wantsStandIn t = false := by
  obtain rfl : f = 6 := Option.some.inj ((show Tryd.prog.funcNamed Rows.cmdParsesRow.func = some 6 by kernel_rfl).symm.trans hf) |>.symm
  obtain rfl : fn = Tryd.f6 := (Option.some.inj (Tryd.func6.symm.trans hfn)).symm
  refine ⟨by kernel_rfl, fun j t ht => ?_⟩
  rw [Tryd.params6] at ht
  have hm := Array.mem_of_getElem? ht
  simp only [List.mem_toArray, List.mem_cons, List.mem_nil_iff, or_false] at hm
  rcases hm with rfl
  · exact (show Tryd.prog.wantsStandIn 9 = false by kernel_rfl)

theorem card : Rows.CmdParsesCardSaid :=
  Claim7.holds_tied_plain_at .later [] _ _ _ _ said (fun _ h => by cases h) (by kernel_rfl) (fun _ h => by cases h) cmdParses_row_tie rfl ⟨rfl, rfl⟩ (by kernel_rfl) rfl plain (by kernel_rfl)
end Go.Proofs.YtdlbnlbajnafdaaDoor.cmdParses
