/-
  NARROWER THAN 'FOR EVERY INPUT', by the rows' own cells (each row's printed sentence says how): BackKeeps: laid · BackParts: laid · GridMends: laid · GridPuts: laid · FindLooks: laid · FindBack: laid · FlowJoins: laid · GridGoes: laid · GridStays: laid · FlowFolds: laid · FlowTurns: laid · FindTakes: laid.
  DERIVED. THE GIVEN ROWS OF THIS SEAT. 12 by the template 'for every input the law returns true; each argument reads behind the call as it read before'; 0 by the template 'total and deterministic' (their statements: YtmnbcnhpklejcaaDoorTotals.lean).
  GIVEN WITH THE SEED: the statements are not yours to turn. If you find one false, say at which input.
  Laid BY PROGRAM, IN A SANDBOX (cutbox-rows.mjs): the forced cells as the released guide's own fill.sh prints them over the translation af05854a7c55294d… (all of the seat's roots in one cut). By AI agents, Wed Nov 11 2026. No macro, syntax, notation, axiom, sorry.
-/
import Derived.Test.YtmnbcnhpklejcaaDoorChecked
import GoSem.PinnedTables
import GoSem.Claim
import GoSem.ClaimJoined
import GoSem.ClaimMapViews
import Derived.JoinedTies
import Derived.KernelRfl
namespace Go.Proofs.YtmnbcnhpklejcaaDoor
/- THE CELL 'sum', in the pinned program and in every row, IS THE sha256 OF THE DUMP (.gsa) THAT YtmnbcnhpklejcaaDoorProg.lean LOADS. Nothing in Lean hashes anything: it is a label: what it is worth is what the hold of that sum in a sandbox is worth. -/
noncomputable def Tryd.pinned : Pinned := { name := "ytmnbcnhpklejcaadoor", sum := "af05854a7c55294db59a06bdcf8d7b1f72da69acc5537b370c28b58f4ed49f2a", checked := Tryd.checked }
namespace Rows
def none {H : Type} : Left H := { results := [], args := [] }

/- WHAT THE LISTED PACKAGE-LEVEL VARIABLES READ AS WHEN THE CALL BEGINS. Each datum BY PROGRAM (the guide's laid-datum.mjs) off the statement by which the dump's own 'gosem.cut.vars' lays the variable. In a bare row this is a premise. The card (YtmnbcnhpklejcaaDoorCards.lean) ties it to the program's text. -/
def laid_unicode_utf8_acceptRanges {H : Type} : DataW H := .agg [.agg [.lit (.int .u8 128), .lit (.int .u8 191)], .agg [.lit (.int .u8 160), .lit (.int .u8 191)], .agg [.lit (.int .u8 128), .lit (.int .u8 159)], .agg [.lit (.int .u8 144), .lit (.int .u8 191)], .agg [.lit (.int .u8 128), .lit (.int .u8 143)], .agg [.lit (.int .u8 0), .lit (.int .u8 0)], .agg [.lit (.int .u8 0), .lit (.int .u8 0)], .agg [.lit (.int .u8 0), .lit (.int .u8 0)], .agg [.lit (.int .u8 0), .lit (.int .u8 0)], .agg [.lit (.int .u8 0), .lit (.int .u8 0)], .agg [.lit (.int .u8 0), .lit (.int .u8 0)], .agg [.lit (.int .u8 0), .lit (.int .u8 0)], .agg [.lit (.int .u8 0), .lit (.int .u8 0)], .agg [.lit (.int .u8 0), .lit (.int .u8 0)], .agg [.lit (.int .u8 0), .lit (.int .u8 0)], .agg [.lit (.int .u8 0), .lit (.int .u8 0)]]
/-- One of Go's own tables, pinned by name: the form's constant. -/
def laid_unicode_utf8_first : DataW Unit := Go.Pinned.utf8First

/-- 'backseatlaw07.BackKeeps': WHATEVER THE INPUT: true; the input reads as it did. -/
def backKeepsSpec : ChangeSpec := { name := "backKeeps", fn := fun _ => fun
  | [d1, d2, d3] => { results := [.lit (.bool true)], args := [d1, d2, d3] }
  | _ => none }
def backKeepsRow : OpenClaim := { program := "ytmnbcnhpklejcaadoor", sum := "af05854a7c55294db59a06bdcf8d7b1f72da69acc5537b370c28b58f4ed49f2a", func := "backseat/backseatlaw07.BackKeeps", spec := "backKeeps", unfollowed := true, recurses := true, named := ["unicode/utf8.first", "unicode/utf8.acceptRanges"], apart := false, laid := [("unicode/utf8.acceptRanges", laid_unicode_utf8_acceptRanges), ("unicode/utf8.first", laid_unicode_utf8_first)] }
def BackKeepsSaid : Prop := backKeepsRow.holds Tryd.pinned (OpenSpec.ofChange backKeepsSpec)

/-- ITS FALSE NEIGHBOUR: 'it returns false'. Refute it at one input. -/
def backKeepsWrong : ChangeSpec := { name := "backKeeps", fn := fun _ => fun
  | [d1, d2, d3] => { results := [.lit (.bool false)], args := [d1, d2, d3] }
  | _ => none }
def BackKeepsWrongFalsely : Prop := backKeepsRow.holds Tryd.pinned (OpenSpec.ofChange backKeepsWrong)

/-- 'backseatlaw07.BackParts': WHATEVER THE INPUT: true; the input reads as it did. -/
def backPartsSpec : ChangeSpec := { name := "backParts", fn := fun _ => fun
  | [d1, d2, d3] => { results := [.lit (.bool true)], args := [d1, d2, d3] }
  | _ => none }
def backPartsRow : OpenClaim := { program := "ytmnbcnhpklejcaadoor", sum := "af05854a7c55294db59a06bdcf8d7b1f72da69acc5537b370c28b58f4ed49f2a", func := "backseat/backseatlaw07.BackParts", spec := "backParts", unfollowed := true, recurses := true, named := ["unicode/utf8.first", "unicode/utf8.acceptRanges"], apart := false, laid := [("unicode/utf8.acceptRanges", laid_unicode_utf8_acceptRanges), ("unicode/utf8.first", laid_unicode_utf8_first)] }
def BackPartsSaid : Prop := backPartsRow.holds Tryd.pinned (OpenSpec.ofChange backPartsSpec)

/-- ITS FALSE NEIGHBOUR: 'it returns false'. Refute it at one input. -/
def backPartsWrong : ChangeSpec := { name := "backParts", fn := fun _ => fun
  | [d1, d2, d3] => { results := [.lit (.bool false)], args := [d1, d2, d3] }
  | _ => none }
def BackPartsWrongFalsely : Prop := backPartsRow.holds Tryd.pinned (OpenSpec.ofChange backPartsWrong)

/-- 'backseatlaw06.GridMends': WHATEVER THE INPUT: true; the input reads as it did. -/
def gridMendsSpec : ChangeSpec := { name := "gridMends", fn := fun _ => fun
  | [d] => { results := [.lit (.bool true)], args := [d] }
  | _ => none }
def gridMendsRow : OpenClaim := { program := "ytmnbcnhpklejcaadoor", sum := "af05854a7c55294db59a06bdcf8d7b1f72da69acc5537b370c28b58f4ed49f2a", func := "backseat/backseatlaw06.GridMends", spec := "gridMends", unfollowed := true, recurses := true, named := ["unicode/utf8.first", "unicode/utf8.acceptRanges"], apart := false, laid := [("unicode/utf8.acceptRanges", laid_unicode_utf8_acceptRanges), ("unicode/utf8.first", laid_unicode_utf8_first)] }
def GridMendsSaid : Prop := gridMendsRow.holds Tryd.pinned (OpenSpec.ofChange gridMendsSpec)

/-- ITS FALSE NEIGHBOUR: 'it returns false'. Refute it at one input. -/
def gridMendsWrong : ChangeSpec := { name := "gridMends", fn := fun _ => fun
  | [d] => { results := [.lit (.bool false)], args := [d] }
  | _ => none }
def GridMendsWrongFalsely : Prop := gridMendsRow.holds Tryd.pinned (OpenSpec.ofChange gridMendsWrong)

/-- 'backseatlaw06.GridPuts': WHATEVER THE INPUT: true; the input reads as it did. -/
def gridPutsSpec : ChangeSpec := { name := "gridPuts", fn := fun _ => fun
  | [d1, d2, d3, d4, d5, d6, d7] => { results := [.lit (.bool true)], args := [d1, d2, d3, d4, d5, d6, d7] }
  | _ => none }
def gridPutsRow : OpenClaim := { program := "ytmnbcnhpklejcaadoor", sum := "af05854a7c55294db59a06bdcf8d7b1f72da69acc5537b370c28b58f4ed49f2a", func := "backseat/backseatlaw06.GridPuts", spec := "gridPuts", unfollowed := true, recurses := true, named := ["unicode/utf8.first", "unicode/utf8.acceptRanges"], apart := false, laid := [("unicode/utf8.acceptRanges", laid_unicode_utf8_acceptRanges), ("unicode/utf8.first", laid_unicode_utf8_first)] }
def GridPutsSaid : Prop := gridPutsRow.holds Tryd.pinned (OpenSpec.ofChange gridPutsSpec)

/-- ITS FALSE NEIGHBOUR: 'it returns false'. Refute it at one input. -/
def gridPutsWrong : ChangeSpec := { name := "gridPuts", fn := fun _ => fun
  | [d1, d2, d3, d4, d5, d6, d7] => { results := [.lit (.bool false)], args := [d1, d2, d3, d4, d5, d6, d7] }
  | _ => none }
def GridPutsWrongFalsely : Prop := gridPutsRow.holds Tryd.pinned (OpenSpec.ofChange gridPutsWrong)

/-- 'backseatlaw10.FindLooks': WHATEVER THE INPUT: true; the input reads as it did. -/
def findLooksSpec : ChangeSpec := { name := "findLooks", fn := fun _ => fun
  | [d1, d2, d3, d4, d5] => { results := [.lit (.bool true)], args := [d1, d2, d3, d4, d5] }
  | _ => none }
def findLooksRow : OpenClaim := { program := "ytmnbcnhpklejcaadoor", sum := "af05854a7c55294db59a06bdcf8d7b1f72da69acc5537b370c28b58f4ed49f2a", func := "backseat/backseatlaw10.FindLooks", spec := "findLooks", inPlace := ["internal/abi.NoEscape"], unfollowed := true, recurses := true, named := ["unicode/utf8.first", "unicode/utf8.acceptRanges"], apart := false, laid := [("unicode/utf8.acceptRanges", laid_unicode_utf8_acceptRanges), ("unicode/utf8.first", laid_unicode_utf8_first)] }
def FindLooksSaid : Prop := findLooksRow.holds Tryd.pinned (OpenSpec.ofChange findLooksSpec)

/-- ITS FALSE NEIGHBOUR: 'it returns false'. Refute it at one input. -/
def findLooksWrong : ChangeSpec := { name := "findLooks", fn := fun _ => fun
  | [d1, d2, d3, d4, d5] => { results := [.lit (.bool false)], args := [d1, d2, d3, d4, d5] }
  | _ => none }
def FindLooksWrongFalsely : Prop := findLooksRow.holds Tryd.pinned (OpenSpec.ofChange findLooksWrong)

/-- 'backseatlaw10.FindBack': WHATEVER THE INPUT: true; the input reads as it did. -/
def findBackSpec : ChangeSpec := { name := "findBack", fn := fun _ => fun
  | [d1, d2, d3, d4] => { results := [.lit (.bool true)], args := [d1, d2, d3, d4] }
  | _ => none }
def findBackRow : OpenClaim := { program := "ytmnbcnhpklejcaadoor", sum := "af05854a7c55294db59a06bdcf8d7b1f72da69acc5537b370c28b58f4ed49f2a", func := "backseat/backseatlaw10.FindBack", spec := "findBack", inPlace := ["internal/abi.NoEscape"], unfollowed := true, recurses := true, named := ["unicode/utf8.first", "unicode/utf8.acceptRanges"], apart := false, laid := [("unicode/utf8.acceptRanges", laid_unicode_utf8_acceptRanges), ("unicode/utf8.first", laid_unicode_utf8_first)] }
def FindBackSaid : Prop := findBackRow.holds Tryd.pinned (OpenSpec.ofChange findBackSpec)

/-- ITS FALSE NEIGHBOUR: 'it returns false'. Refute it at one input. -/
def findBackWrong : ChangeSpec := { name := "findBack", fn := fun _ => fun
  | [d1, d2, d3, d4] => { results := [.lit (.bool false)], args := [d1, d2, d3, d4] }
  | _ => none }
def FindBackWrongFalsely : Prop := findBackRow.holds Tryd.pinned (OpenSpec.ofChange findBackWrong)

/-- 'backseatlaw08.FlowJoins': WHATEVER THE INPUT: true; the input reads as it did. -/
def flowJoinsSpec : ChangeSpec := { name := "flowJoins", fn := fun _ => fun
  | [d] => { results := [.lit (.bool true)], args := [d] }
  | _ => none }
def flowJoinsRow : OpenClaim := { program := "ytmnbcnhpklejcaadoor", sum := "af05854a7c55294db59a06bdcf8d7b1f72da69acc5537b370c28b58f4ed49f2a", func := "backseat/backseatlaw08.FlowJoins", spec := "flowJoins", inPlace := ["internal/abi.NoEscape"], unfollowed := true, recurses := true, named := ["unicode/utf8.first", "unicode/utf8.acceptRanges"], apart := false, laid := [("unicode/utf8.acceptRanges", laid_unicode_utf8_acceptRanges), ("unicode/utf8.first", laid_unicode_utf8_first)] }
def FlowJoinsSaid : Prop := flowJoinsRow.holds Tryd.pinned (OpenSpec.ofChange flowJoinsSpec)

/-- ITS FALSE NEIGHBOUR: 'it returns false'. Refute it at one input. -/
def flowJoinsWrong : ChangeSpec := { name := "flowJoins", fn := fun _ => fun
  | [d] => { results := [.lit (.bool false)], args := [d] }
  | _ => none }
def FlowJoinsWrongFalsely : Prop := flowJoinsRow.holds Tryd.pinned (OpenSpec.ofChange flowJoinsWrong)

/-- 'backseatlaw06.GridGoes': WHATEVER THE INPUT: true; the input reads as it did. -/
def gridGoesSpec : ChangeSpec := { name := "gridGoes", fn := fun _ => fun
  | [d1, d2, d3, d4, d5] => { results := [.lit (.bool true)], args := [d1, d2, d3, d4, d5] }
  | _ => none }
def gridGoesRow : OpenClaim := { program := "ytmnbcnhpklejcaadoor", sum := "af05854a7c55294db59a06bdcf8d7b1f72da69acc5537b370c28b58f4ed49f2a", func := "backseat/backseatlaw06.GridGoes", spec := "gridGoes", unfollowed := true, recurses := true, named := ["unicode/utf8.first", "unicode/utf8.acceptRanges"], apart := false, laid := [("unicode/utf8.acceptRanges", laid_unicode_utf8_acceptRanges), ("unicode/utf8.first", laid_unicode_utf8_first)] }
def GridGoesSaid : Prop := gridGoesRow.holds Tryd.pinned (OpenSpec.ofChange gridGoesSpec)

/-- ITS FALSE NEIGHBOUR: 'it returns false'. Refute it at one input. -/
def gridGoesWrong : ChangeSpec := { name := "gridGoes", fn := fun _ => fun
  | [d1, d2, d3, d4, d5] => { results := [.lit (.bool false)], args := [d1, d2, d3, d4, d5] }
  | _ => none }
def GridGoesWrongFalsely : Prop := gridGoesRow.holds Tryd.pinned (OpenSpec.ofChange gridGoesWrong)

/-- 'backseatlaw06.GridStays': WHATEVER THE INPUT: true; the input reads as it did. -/
def gridStaysSpec : ChangeSpec := { name := "gridStays", fn := fun _ => fun
  | [d1, d2, d3, d4, d5, d6] => { results := [.lit (.bool true)], args := [d1, d2, d3, d4, d5, d6] }
  | _ => none }
def gridStaysRow : OpenClaim := { program := "ytmnbcnhpklejcaadoor", sum := "af05854a7c55294db59a06bdcf8d7b1f72da69acc5537b370c28b58f4ed49f2a", func := "backseat/backseatlaw06.GridStays", spec := "gridStays", unfollowed := true, recurses := true, named := ["unicode/utf8.first", "unicode/utf8.acceptRanges"], apart := false, laid := [("unicode/utf8.acceptRanges", laid_unicode_utf8_acceptRanges), ("unicode/utf8.first", laid_unicode_utf8_first)] }
def GridStaysSaid : Prop := gridStaysRow.holds Tryd.pinned (OpenSpec.ofChange gridStaysSpec)

/-- ITS FALSE NEIGHBOUR: 'it returns false'. Refute it at one input. -/
def gridStaysWrong : ChangeSpec := { name := "gridStays", fn := fun _ => fun
  | [d1, d2, d3, d4, d5, d6] => { results := [.lit (.bool false)], args := [d1, d2, d3, d4, d5, d6] }
  | _ => none }
def GridStaysWrongFalsely : Prop := gridStaysRow.holds Tryd.pinned (OpenSpec.ofChange gridStaysWrong)

/-- 'backseatlaw08.FlowFolds': WHATEVER THE INPUT: true; the input reads as it did. -/
def flowFoldsSpec : ChangeSpec := { name := "flowFolds", fn := fun _ => fun
  | [d1, d2, d3] => { results := [.lit (.bool true)], args := [d1, d2, d3] }
  | _ => none }
def flowFoldsRow : OpenClaim := { program := "ytmnbcnhpklejcaadoor", sum := "af05854a7c55294db59a06bdcf8d7b1f72da69acc5537b370c28b58f4ed49f2a", func := "backseat/backseatlaw08.FlowFolds", spec := "flowFolds", inPlace := ["internal/abi.NoEscape"], unfollowed := true, recurses := true, named := ["unicode/utf8.first", "unicode/utf8.acceptRanges"], apart := false, laid := [("unicode/utf8.acceptRanges", laid_unicode_utf8_acceptRanges), ("unicode/utf8.first", laid_unicode_utf8_first)] }
def FlowFoldsSaid : Prop := flowFoldsRow.holds Tryd.pinned (OpenSpec.ofChange flowFoldsSpec)

/-- ITS FALSE NEIGHBOUR: 'it returns false'. Refute it at one input. -/
def flowFoldsWrong : ChangeSpec := { name := "flowFolds", fn := fun _ => fun
  | [d1, d2, d3] => { results := [.lit (.bool false)], args := [d1, d2, d3] }
  | _ => none }
def FlowFoldsWrongFalsely : Prop := flowFoldsRow.holds Tryd.pinned (OpenSpec.ofChange flowFoldsWrong)

/-- 'backseatlaw08.FlowTurns': WHATEVER THE INPUT: true; the input reads as it did. -/
def flowTurnsSpec : ChangeSpec := { name := "flowTurns", fn := fun _ => fun
  | [d1, d2, d3] => { results := [.lit (.bool true)], args := [d1, d2, d3] }
  | _ => none }
def flowTurnsRow : OpenClaim := { program := "ytmnbcnhpklejcaadoor", sum := "af05854a7c55294db59a06bdcf8d7b1f72da69acc5537b370c28b58f4ed49f2a", func := "backseat/backseatlaw08.FlowTurns", spec := "flowTurns", inPlace := ["internal/abi.NoEscape"], unfollowed := true, recurses := true, named := ["unicode/utf8.first", "unicode/utf8.acceptRanges"], apart := false, laid := [("unicode/utf8.acceptRanges", laid_unicode_utf8_acceptRanges), ("unicode/utf8.first", laid_unicode_utf8_first)] }
def FlowTurnsSaid : Prop := flowTurnsRow.holds Tryd.pinned (OpenSpec.ofChange flowTurnsSpec)

/-- ITS FALSE NEIGHBOUR: 'it returns false'. Refute it at one input. -/
def flowTurnsWrong : ChangeSpec := { name := "flowTurns", fn := fun _ => fun
  | [d1, d2, d3] => { results := [.lit (.bool false)], args := [d1, d2, d3] }
  | _ => none }
def FlowTurnsWrongFalsely : Prop := flowTurnsRow.holds Tryd.pinned (OpenSpec.ofChange flowTurnsWrong)

/-- 'backseatlaw10.FindTakes': WHATEVER THE INPUT: true; the input reads as it did. -/
def findTakesSpec : ChangeSpec := { name := "findTakes", fn := fun _ => fun
  | [d1, d2, d3, d4, d5, d6] => { results := [.lit (.bool true)], args := [d1, d2, d3, d4, d5, d6] }
  | _ => none }
def findTakesRow : OpenClaim := { program := "ytmnbcnhpklejcaadoor", sum := "af05854a7c55294db59a06bdcf8d7b1f72da69acc5537b370c28b58f4ed49f2a", func := "backseat/backseatlaw10.FindTakes", spec := "findTakes", inPlace := ["internal/abi.NoEscape", "internal/bytealg.IndexByteString", "internal/bytealg.IndexString", "internal/bytealg.MakeNoZero"], unfollowed := true, recurses := true, named := ["unicode/utf8.first", "unicode/utf8.acceptRanges", "internal/bytealg.MaxLen"], apart := false, laid := [("unicode/utf8.acceptRanges", laid_unicode_utf8_acceptRanges), ("unicode/utf8.first", laid_unicode_utf8_first)] }
def FindTakesSaid : Prop := findTakesRow.holds Tryd.pinned (OpenSpec.ofChange findTakesSpec)

/-- ITS FALSE NEIGHBOUR: 'it returns false'. Refute it at one input. -/
def findTakesWrong : ChangeSpec := { name := "findTakes", fn := fun _ => fun
  | [d1, d2, d3, d4, d5, d6] => { results := [.lit (.bool false)], args := [d1, d2, d3, d4, d5, d6] }
  | _ => none }
def FindTakesWrongFalsely : Prop := findTakesRow.holds Tryd.pinned (OpenSpec.ofChange findTakesWrong)

/- THE SECOND FORM. 'bulk': how many values and letters a reading holds, each counted each time it is reached (what is shared counts as often as it is met; a slice's spare places count too). A statement '..UptoSaid' is the law's where the arguments, and the package variables that the reading takes, are together of bulk at most 1048576: NARROWER than '..Said'. Prove '..Said' where nothing that the law and all that it calls make is longer than what came in: it says more and counts as full. Else prove '..UptoSaid'. A law counts once. -/
mutual
def uptoBulk {H : Type} : DataW H → Nat
  | .lit (.string bytes) => bytes.length + 1
  | .lit _ => 1
  | .nil => 1
  | .ptr d => uptoBulk d + 1
  | .slice elems spare => uptoBulkAll elems + uptoBulkAll spare + 1
  | .agg parts => uptoBulkAll parts + 1
  | .iface _ d => uptoBulk d + 1
  | .map entries => uptoBulkEntries entries + 1
  | .held _ => 1
def uptoBulkAll {H : Type} : List (DataW H) → Nat
  | [] => 0
  | d :: r => uptoBulk d + uptoBulkAll r
def uptoBulkEntries {H : Type} : List (Lit × DataW H) → Nat
  | [] => 0
  | x :: r => uptoBulkEntry x + uptoBulkEntries r
def uptoBulkEntry {H : Type} : Lit × DataW H → Nat
  | (.string bytes, d) => bytes.length + uptoBulk d + 1
  | (_, d) => uptoBulk d + 1
 end
def uptoSmall : (H : Type) → List (DataW H) → Bool := fun _ ds => decide (uptoBulkAll ds ≤ 1048576)
def OpenSpec.upto (s : _root_.Go.ChangeSpec) : _root_.Go.OpenSpec := { _root_.Go.OpenSpec.ofChange s with cond := some uptoSmall }

/-- 'backseatlaw07.BackKeeps', WHERE WHAT IT READS IS OF BULK AT MOST 1048576: true; the input reads as it did. -/
def backKeepsUptoRow : OpenClaim := { program := "ytmnbcnhpklejcaadoor", sum := "af05854a7c55294db59a06bdcf8d7b1f72da69acc5537b370c28b58f4ed49f2a", func := "backseat/backseatlaw07.BackKeeps", spec := "backKeeps", unfollowed := true, recurses := true, named := ["unicode/utf8.first", "unicode/utf8.acceptRanges"], apart := false, laid := [("unicode/utf8.acceptRanges", laid_unicode_utf8_acceptRanges), ("unicode/utf8.first", laid_unicode_utf8_first)], narrowed := true }
def BackKeepsUptoSaid : Prop := backKeepsUptoRow.holds Tryd.pinned (OpenSpec.upto backKeepsSpec)

/-- 'backseatlaw07.BackParts', WHERE WHAT IT READS IS OF BULK AT MOST 1048576: true; the input reads as it did. -/
def backPartsUptoRow : OpenClaim := { program := "ytmnbcnhpklejcaadoor", sum := "af05854a7c55294db59a06bdcf8d7b1f72da69acc5537b370c28b58f4ed49f2a", func := "backseat/backseatlaw07.BackParts", spec := "backParts", unfollowed := true, recurses := true, named := ["unicode/utf8.first", "unicode/utf8.acceptRanges"], apart := false, laid := [("unicode/utf8.acceptRanges", laid_unicode_utf8_acceptRanges), ("unicode/utf8.first", laid_unicode_utf8_first)], narrowed := true }
def BackPartsUptoSaid : Prop := backPartsUptoRow.holds Tryd.pinned (OpenSpec.upto backPartsSpec)

/-- 'backseatlaw06.GridMends', WHERE WHAT IT READS IS OF BULK AT MOST 1048576: true; the input reads as it did. -/
def gridMendsUptoRow : OpenClaim := { program := "ytmnbcnhpklejcaadoor", sum := "af05854a7c55294db59a06bdcf8d7b1f72da69acc5537b370c28b58f4ed49f2a", func := "backseat/backseatlaw06.GridMends", spec := "gridMends", unfollowed := true, recurses := true, named := ["unicode/utf8.first", "unicode/utf8.acceptRanges"], apart := false, laid := [("unicode/utf8.acceptRanges", laid_unicode_utf8_acceptRanges), ("unicode/utf8.first", laid_unicode_utf8_first)], narrowed := true }
def GridMendsUptoSaid : Prop := gridMendsUptoRow.holds Tryd.pinned (OpenSpec.upto gridMendsSpec)

/-- 'backseatlaw06.GridPuts', WHERE WHAT IT READS IS OF BULK AT MOST 1048576: true; the input reads as it did. -/
def gridPutsUptoRow : OpenClaim := { program := "ytmnbcnhpklejcaadoor", sum := "af05854a7c55294db59a06bdcf8d7b1f72da69acc5537b370c28b58f4ed49f2a", func := "backseat/backseatlaw06.GridPuts", spec := "gridPuts", unfollowed := true, recurses := true, named := ["unicode/utf8.first", "unicode/utf8.acceptRanges"], apart := false, laid := [("unicode/utf8.acceptRanges", laid_unicode_utf8_acceptRanges), ("unicode/utf8.first", laid_unicode_utf8_first)], narrowed := true }
def GridPutsUptoSaid : Prop := gridPutsUptoRow.holds Tryd.pinned (OpenSpec.upto gridPutsSpec)

/-- 'backseatlaw10.FindLooks', WHERE WHAT IT READS IS OF BULK AT MOST 1048576: true; the input reads as it did. -/
def findLooksUptoRow : OpenClaim := { program := "ytmnbcnhpklejcaadoor", sum := "af05854a7c55294db59a06bdcf8d7b1f72da69acc5537b370c28b58f4ed49f2a", func := "backseat/backseatlaw10.FindLooks", spec := "findLooks", inPlace := ["internal/abi.NoEscape"], unfollowed := true, recurses := true, named := ["unicode/utf8.first", "unicode/utf8.acceptRanges"], apart := false, laid := [("unicode/utf8.acceptRanges", laid_unicode_utf8_acceptRanges), ("unicode/utf8.first", laid_unicode_utf8_first)], narrowed := true }
def FindLooksUptoSaid : Prop := findLooksUptoRow.holds Tryd.pinned (OpenSpec.upto findLooksSpec)

/-- 'backseatlaw10.FindBack', WHERE WHAT IT READS IS OF BULK AT MOST 1048576: true; the input reads as it did. -/
def findBackUptoRow : OpenClaim := { program := "ytmnbcnhpklejcaadoor", sum := "af05854a7c55294db59a06bdcf8d7b1f72da69acc5537b370c28b58f4ed49f2a", func := "backseat/backseatlaw10.FindBack", spec := "findBack", inPlace := ["internal/abi.NoEscape"], unfollowed := true, recurses := true, named := ["unicode/utf8.first", "unicode/utf8.acceptRanges"], apart := false, laid := [("unicode/utf8.acceptRanges", laid_unicode_utf8_acceptRanges), ("unicode/utf8.first", laid_unicode_utf8_first)], narrowed := true }
def FindBackUptoSaid : Prop := findBackUptoRow.holds Tryd.pinned (OpenSpec.upto findBackSpec)

/-- 'backseatlaw08.FlowJoins', WHERE WHAT IT READS IS OF BULK AT MOST 1048576: true; the input reads as it did. -/
def flowJoinsUptoRow : OpenClaim := { program := "ytmnbcnhpklejcaadoor", sum := "af05854a7c55294db59a06bdcf8d7b1f72da69acc5537b370c28b58f4ed49f2a", func := "backseat/backseatlaw08.FlowJoins", spec := "flowJoins", inPlace := ["internal/abi.NoEscape"], unfollowed := true, recurses := true, named := ["unicode/utf8.first", "unicode/utf8.acceptRanges"], apart := false, laid := [("unicode/utf8.acceptRanges", laid_unicode_utf8_acceptRanges), ("unicode/utf8.first", laid_unicode_utf8_first)], narrowed := true }
def FlowJoinsUptoSaid : Prop := flowJoinsUptoRow.holds Tryd.pinned (OpenSpec.upto flowJoinsSpec)

/-- 'backseatlaw06.GridGoes', WHERE WHAT IT READS IS OF BULK AT MOST 1048576: true; the input reads as it did. -/
def gridGoesUptoRow : OpenClaim := { program := "ytmnbcnhpklejcaadoor", sum := "af05854a7c55294db59a06bdcf8d7b1f72da69acc5537b370c28b58f4ed49f2a", func := "backseat/backseatlaw06.GridGoes", spec := "gridGoes", unfollowed := true, recurses := true, named := ["unicode/utf8.first", "unicode/utf8.acceptRanges"], apart := false, laid := [("unicode/utf8.acceptRanges", laid_unicode_utf8_acceptRanges), ("unicode/utf8.first", laid_unicode_utf8_first)], narrowed := true }
def GridGoesUptoSaid : Prop := gridGoesUptoRow.holds Tryd.pinned (OpenSpec.upto gridGoesSpec)

/-- 'backseatlaw06.GridStays', WHERE WHAT IT READS IS OF BULK AT MOST 1048576: true; the input reads as it did. -/
def gridStaysUptoRow : OpenClaim := { program := "ytmnbcnhpklejcaadoor", sum := "af05854a7c55294db59a06bdcf8d7b1f72da69acc5537b370c28b58f4ed49f2a", func := "backseat/backseatlaw06.GridStays", spec := "gridStays", unfollowed := true, recurses := true, named := ["unicode/utf8.first", "unicode/utf8.acceptRanges"], apart := false, laid := [("unicode/utf8.acceptRanges", laid_unicode_utf8_acceptRanges), ("unicode/utf8.first", laid_unicode_utf8_first)], narrowed := true }
def GridStaysUptoSaid : Prop := gridStaysUptoRow.holds Tryd.pinned (OpenSpec.upto gridStaysSpec)

/-- 'backseatlaw08.FlowFolds', WHERE WHAT IT READS IS OF BULK AT MOST 1048576: true; the input reads as it did. -/
def flowFoldsUptoRow : OpenClaim := { program := "ytmnbcnhpklejcaadoor", sum := "af05854a7c55294db59a06bdcf8d7b1f72da69acc5537b370c28b58f4ed49f2a", func := "backseat/backseatlaw08.FlowFolds", spec := "flowFolds", inPlace := ["internal/abi.NoEscape"], unfollowed := true, recurses := true, named := ["unicode/utf8.first", "unicode/utf8.acceptRanges"], apart := false, laid := [("unicode/utf8.acceptRanges", laid_unicode_utf8_acceptRanges), ("unicode/utf8.first", laid_unicode_utf8_first)], narrowed := true }
def FlowFoldsUptoSaid : Prop := flowFoldsUptoRow.holds Tryd.pinned (OpenSpec.upto flowFoldsSpec)

/-- 'backseatlaw08.FlowTurns', WHERE WHAT IT READS IS OF BULK AT MOST 1048576: true; the input reads as it did. -/
def flowTurnsUptoRow : OpenClaim := { program := "ytmnbcnhpklejcaadoor", sum := "af05854a7c55294db59a06bdcf8d7b1f72da69acc5537b370c28b58f4ed49f2a", func := "backseat/backseatlaw08.FlowTurns", spec := "flowTurns", inPlace := ["internal/abi.NoEscape"], unfollowed := true, recurses := true, named := ["unicode/utf8.first", "unicode/utf8.acceptRanges"], apart := false, laid := [("unicode/utf8.acceptRanges", laid_unicode_utf8_acceptRanges), ("unicode/utf8.first", laid_unicode_utf8_first)], narrowed := true }
def FlowTurnsUptoSaid : Prop := flowTurnsUptoRow.holds Tryd.pinned (OpenSpec.upto flowTurnsSpec)

/-- 'backseatlaw10.FindTakes', WHERE WHAT IT READS IS OF BULK AT MOST 1048576: true; the input reads as it did. -/
def findTakesUptoRow : OpenClaim := { program := "ytmnbcnhpklejcaadoor", sum := "af05854a7c55294db59a06bdcf8d7b1f72da69acc5537b370c28b58f4ed49f2a", func := "backseat/backseatlaw10.FindTakes", spec := "findTakes", inPlace := ["internal/abi.NoEscape", "internal/bytealg.IndexByteString", "internal/bytealg.IndexString", "internal/bytealg.MakeNoZero"], unfollowed := true, recurses := true, named := ["unicode/utf8.first", "unicode/utf8.acceptRanges", "internal/bytealg.MaxLen"], apart := false, laid := [("unicode/utf8.acceptRanges", laid_unicode_utf8_acceptRanges), ("unicode/utf8.first", laid_unicode_utf8_first)], narrowed := true }
def FindTakesUptoSaid : Prop := findTakesUptoRow.holds Tryd.pinned (OpenSpec.upto findTakesSpec)

end Rows
end Go.Proofs.YtmnbcnhpklejcaaDoor
