/-
  No cell of these rows narrows 'for every input' (looked for: loops, veiled, ifaces, maps, wideKeys, modest, calm, conditions, laid).
  DERIVED. THE GIVEN ROWS OF THIS SEAT. 5 by the template 'for every input the law returns true; each argument reads behind the call as it read before'; 0 by the template 'total and deterministic' (their statements: YtiongkbkjfgimaaTotals.lean).
  GIVEN WITH THE SEED: the statements are not yours to turn. If you find one false, say at which input.
  Laid BY PROGRAM, IN A SANDBOX (cutbox-rows.mjs): the forced cells as the released guide's own fill.sh prints them over the translation f1839abb260210ca… (all of the seat's roots in one cut). By AI agents, Wed Nov 11 2026. No macro, syntax, notation, axiom, sorry.
-/
import Derived.Test.YtiongkbkjfgimaaChecked
import GoSem.Claim
import GoSem.ClaimJoined
import GoSem.ClaimMapViews
import Derived.JoinedTies
import Derived.KernelRfl
namespace Go.Proofs.Ytiongkbkjfgimaa
/- THE CELL 'sum', in the pinned program and in every row, IS THE sha256 OF THE DUMP (.gsa) THAT YtiongkbkjfgimaaProg.lean LOADS. Nothing in Lean hashes anything: it is a label: what it is worth is what the hold of that sum in a sandbox is worth. -/
noncomputable def Try.pinned : Pinned := { name := "ytiongkbkjfgimaa", sum := "f1839abb260210ca87adf2e41dd80bf5755818539594adb598aab8ddb1113fc0", checked := Try.checked }
namespace Rows
def none {H : Type} : Left H := { results := [], args := [] }

/-- 'backseatlaw15.TurnGoes': WHATEVER THE INPUT: true; the input reads as it did. -/
def turnGoesSpec : ChangeSpec := { name := "turnGoes", fn := fun _ => fun
  | [d1, d2, d3, d4] => { results := [.lit (.bool true)], args := [d1, d2, d3, d4] }
  | _ => none }
def turnGoesRow : OpenClaim := { program := "ytiongkbkjfgimaa", sum := "f1839abb260210ca87adf2e41dd80bf5755818539594adb598aab8ddb1113fc0", func := "backseat/backseatlaw15.TurnGoes", spec := "turnGoes", inPlace := ["sync/atomic.StoreInt64", "sync/atomic.CompareAndSwapInt64", "sync/atomic.LoadInt64"], apart := false }
def TurnGoesSaid : Prop := turnGoesRow.holds Try.pinned (OpenSpec.ofChange turnGoesSpec)

/-- ITS FALSE NEIGHBOUR: 'it returns false'. Refute it at one input. -/
def turnGoesWrong : ChangeSpec := { name := "turnGoes", fn := fun _ => fun
  | [d1, d2, d3, d4] => { results := [.lit (.bool false)], args := [d1, d2, d3, d4] }
  | _ => none }
def TurnGoesWrongFalsely : Prop := turnGoesRow.holds Try.pinned (OpenSpec.ofChange turnGoesWrong)

/-- 'backseatlaw02.WireFeeds': WHATEVER THE INPUT: true; the input reads as it did. -/
def wireFeedsSpec : ChangeSpec := { name := "wireFeeds", fn := fun _ => fun
  | [d1, d2, d3] => { results := [.lit (.bool true)], args := [d1, d2, d3] }
  | _ => none }
def wireFeedsRow : OpenClaim := { program := "ytiongkbkjfgimaa", sum := "f1839abb260210ca87adf2e41dd80bf5755818539594adb598aab8ddb1113fc0", func := "backseat/backseatlaw02.WireFeeds", spec := "wireFeeds", unfollowed := true, recurses := true, apart := false }
def WireFeedsSaid : Prop := wireFeedsRow.holds Try.pinned (OpenSpec.ofChange wireFeedsSpec)

/-- ITS FALSE NEIGHBOUR: 'it returns false'. Refute it at one input. -/
def wireFeedsWrong : ChangeSpec := { name := "wireFeeds", fn := fun _ => fun
  | [d1, d2, d3] => { results := [.lit (.bool false)], args := [d1, d2, d3] }
  | _ => none }
def WireFeedsWrongFalsely : Prop := wireFeedsRow.holds Try.pinned (OpenSpec.ofChange wireFeedsWrong)

/-- 'backseatlaw02.WireCuts': WHATEVER THE INPUT: true; the input reads as it did. -/
def wireCutsSpec : ChangeSpec := { name := "wireCuts", fn := fun _ => fun
  | [d1, d2, d3] => { results := [.lit (.bool true)], args := [d1, d2, d3] }
  | _ => none }
def wireCutsRow : OpenClaim := { program := "ytiongkbkjfgimaa", sum := "f1839abb260210ca87adf2e41dd80bf5755818539594adb598aab8ddb1113fc0", func := "backseat/backseatlaw02.WireCuts", spec := "wireCuts", unfollowed := true, recurses := true, apart := false }
def WireCutsSaid : Prop := wireCutsRow.holds Try.pinned (OpenSpec.ofChange wireCutsSpec)

/-- ITS FALSE NEIGHBOUR: 'it returns false'. Refute it at one input. -/
def wireCutsWrong : ChangeSpec := { name := "wireCuts", fn := fun _ => fun
  | [d1, d2, d3] => { results := [.lit (.bool false)], args := [d1, d2, d3] }
  | _ => none }
def WireCutsWrongFalsely : Prop := wireCutsRow.holds Try.pinned (OpenSpec.ofChange wireCutsWrong)

/-- 'backseatlaw02.WireBack': WHATEVER THE INPUT: true; the input reads as it did. -/
def wireBackSpec : ChangeSpec := { name := "wireBack", fn := fun _ => fun
  | [d1, d2] => { results := [.lit (.bool true)], args := [d1, d2] }
  | _ => none }
def wireBackRow : OpenClaim := { program := "ytiongkbkjfgimaa", sum := "f1839abb260210ca87adf2e41dd80bf5755818539594adb598aab8ddb1113fc0", func := "backseat/backseatlaw02.WireBack", spec := "wireBack", unfollowed := true, recurses := true, apart := false }
def WireBackSaid : Prop := wireBackRow.holds Try.pinned (OpenSpec.ofChange wireBackSpec)

/-- ITS FALSE NEIGHBOUR: 'it returns false'. Refute it at one input. -/
def wireBackWrong : ChangeSpec := { name := "wireBack", fn := fun _ => fun
  | [d1, d2] => { results := [.lit (.bool false)], args := [d1, d2] }
  | _ => none }
def WireBackWrongFalsely : Prop := wireBackRow.holds Try.pinned (OpenSpec.ofChange wireBackWrong)

/-- 'backseatlaw02.WireHurt': WHATEVER THE INPUT: true; the input reads as it did. -/
def wireHurtSpec : ChangeSpec := { name := "wireHurt", fn := fun _ => fun
  | [d1, d2, d3] => { results := [.lit (.bool true)], args := [d1, d2, d3] }
  | _ => none }
def wireHurtRow : OpenClaim := { program := "ytiongkbkjfgimaa", sum := "f1839abb260210ca87adf2e41dd80bf5755818539594adb598aab8ddb1113fc0", func := "backseat/backseatlaw02.WireHurt", spec := "wireHurt", unfollowed := true, recurses := true, apart := false }
def WireHurtSaid : Prop := wireHurtRow.holds Try.pinned (OpenSpec.ofChange wireHurtSpec)

/-- ITS FALSE NEIGHBOUR: 'it returns false'. Refute it at one input. -/
def wireHurtWrong : ChangeSpec := { name := "wireHurt", fn := fun _ => fun
  | [d1, d2, d3] => { results := [.lit (.bool false)], args := [d1, d2, d3] }
  | _ => none }
def WireHurtWrongFalsely : Prop := wireHurtRow.holds Try.pinned (OpenSpec.ofChange wireHurtWrong)

/- THE SECOND FORM. 'bulk': how many values and letters a reading holds, each counted each time it is reached (what is shared counts as often as it is met; a slice's spare places count too). A statement '..UptoSaid' is the law's where the arguments, and the package variables that the reading takes, are together of bulk at most 1048576: NARROWER than '..Said'. Prove '..Said' where nothing that the law and all that it calls make is longer than what came in: it says more and counts as full. Else prove '..UptoSaid'. A law counts once. -/
mutual
def uptoBulk {H : Type} : DataW H → Nat
  | .lit (.string bytes) => bytes.length + 1
  | .lit _ => 1
  | .nil => 1
  | .ptr d => uptoBulk d + 1
  | .slice elems spare => uptoBulkAll elems + uptoBulkAll spare + 1
  | .agg parts => uptoBulkAll parts + 1
  | .iface _ d => uptoBulk d + 1
  | .map entries => uptoBulkEntries entries + 1
  | .held _ => 1
def uptoBulkAll {H : Type} : List (DataW H) → Nat
  | [] => 0
  | d :: r => uptoBulk d + uptoBulkAll r
def uptoBulkEntries {H : Type} : List (Lit × DataW H) → Nat
  | [] => 0
  | x :: r => uptoBulkEntry x + uptoBulkEntries r
def uptoBulkEntry {H : Type} : Lit × DataW H → Nat
  | (.string bytes, d) => bytes.length + uptoBulk d + 1
  | (_, d) => uptoBulk d + 1
 end
def uptoSmall : (H : Type) → List (DataW H) → Bool := fun _ ds => decide (uptoBulkAll ds ≤ 1048576)
def OpenSpec.upto (s : _root_.Go.ChangeSpec) : _root_.Go.OpenSpec := { _root_.Go.OpenSpec.ofChange s with cond := some uptoSmall }

/-- 'backseatlaw15.TurnGoes', WHERE WHAT IT READS IS OF BULK AT MOST 1048576: true; the input reads as it did. -/
def turnGoesUptoRow : OpenClaim := { program := "ytiongkbkjfgimaa", sum := "f1839abb260210ca87adf2e41dd80bf5755818539594adb598aab8ddb1113fc0", func := "backseat/backseatlaw15.TurnGoes", spec := "turnGoes", inPlace := ["sync/atomic.StoreInt64", "sync/atomic.CompareAndSwapInt64", "sync/atomic.LoadInt64"], apart := false, narrowed := true }
def TurnGoesUptoSaid : Prop := turnGoesUptoRow.holds Try.pinned (OpenSpec.upto turnGoesSpec)

/-- 'backseatlaw02.WireFeeds', WHERE WHAT IT READS IS OF BULK AT MOST 1048576: true; the input reads as it did. -/
def wireFeedsUptoRow : OpenClaim := { program := "ytiongkbkjfgimaa", sum := "f1839abb260210ca87adf2e41dd80bf5755818539594adb598aab8ddb1113fc0", func := "backseat/backseatlaw02.WireFeeds", spec := "wireFeeds", unfollowed := true, recurses := true, apart := false, narrowed := true }
def WireFeedsUptoSaid : Prop := wireFeedsUptoRow.holds Try.pinned (OpenSpec.upto wireFeedsSpec)

/-- 'backseatlaw02.WireCuts', WHERE WHAT IT READS IS OF BULK AT MOST 1048576: true; the input reads as it did. -/
def wireCutsUptoRow : OpenClaim := { program := "ytiongkbkjfgimaa", sum := "f1839abb260210ca87adf2e41dd80bf5755818539594adb598aab8ddb1113fc0", func := "backseat/backseatlaw02.WireCuts", spec := "wireCuts", unfollowed := true, recurses := true, apart := false, narrowed := true }
def WireCutsUptoSaid : Prop := wireCutsUptoRow.holds Try.pinned (OpenSpec.upto wireCutsSpec)

/-- 'backseatlaw02.WireBack', WHERE WHAT IT READS IS OF BULK AT MOST 1048576: true; the input reads as it did. -/
def wireBackUptoRow : OpenClaim := { program := "ytiongkbkjfgimaa", sum := "f1839abb260210ca87adf2e41dd80bf5755818539594adb598aab8ddb1113fc0", func := "backseat/backseatlaw02.WireBack", spec := "wireBack", unfollowed := true, recurses := true, apart := false, narrowed := true }
def WireBackUptoSaid : Prop := wireBackUptoRow.holds Try.pinned (OpenSpec.upto wireBackSpec)

/-- 'backseatlaw02.WireHurt', WHERE WHAT IT READS IS OF BULK AT MOST 1048576: true; the input reads as it did. -/
def wireHurtUptoRow : OpenClaim := { program := "ytiongkbkjfgimaa", sum := "f1839abb260210ca87adf2e41dd80bf5755818539594adb598aab8ddb1113fc0", func := "backseat/backseatlaw02.WireHurt", spec := "wireHurt", unfollowed := true, recurses := true, apart := false, narrowed := true }
def WireHurtUptoSaid : Prop := wireHurtUptoRow.holds Try.pinned (OpenSpec.upto wireHurtSpec)

end Rows
end Go.Proofs.Ytiongkbkjfgimaa
