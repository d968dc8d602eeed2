/-
  NARROWER THAN 'FOR EVERY INPUT', by the rows' own cells (each row's printed sentence says how): DiffRows: laid · LstrParses: laid · LstrBack: loops, laid · CmdParses: laid · CmdPrints: laid · CmdBack: laid.
  DERIVED. THE GIVEN ROWS OF THIS SEAT. 6 by the template 'for every input the law returns true; each argument reads behind the call as it read before'; 0 by the template 'total and deterministic' (their statements: YtdlbnlbajnafdaaDoorTotals.lean).
  GIVEN WITH THE SEED: the statements are not yours to turn. If you find one false, say at which input.
  Laid BY PROGRAM, IN A SANDBOX (cutbox-rows.mjs): the forced cells as the released guide's own fill.sh prints them over the translation 699e47db9e703f9c… (all of the seat's roots in one cut). By AI agents, Wed Nov 11 2026. No macro, syntax, notation, axiom, sorry.
-/
import Derived.Test.YtdlbnlbajnafdaaDoorChecked
import GoSem.PinnedTables
import GoSem.Claim
import GoSem.ClaimJoined
import GoSem.ClaimMapViews
import Derived.JoinedTies
import Derived.KernelRfl
namespace Go.Proofs.YtdlbnlbajnafdaaDoor
/- THE CELL 'sum', in the pinned program and in every row, IS THE sha256 OF THE DUMP (.gsa) THAT YtdlbnlbajnafdaaDoorProg.lean LOADS. Nothing in Lean hashes anything: it is a label: what it is worth is what the hold of that sum in a sandbox is worth. -/
noncomputable def Tryd.pinned : Pinned := { name := "ytdlbnlbajnafdaadoor", sum := "699e47db9e703f9cd72220171686542f0e7320fe533d038891113293c1c76606", checked := Tryd.checked }
namespace Rows
def none {H : Type} : Left H := { results := [], args := [] }

/- WHAT THE LISTED PACKAGE-LEVEL VARIABLES READ AS WHEN THE CALL BEGINS. Each datum BY PROGRAM (the guide's laid-datum.mjs) off the statement by which the dump's own 'gosem.cut.vars' lays the variable. In a bare row this is a premise. The card (YtdlbnlbajnafdaaDoorCards.lean) ties it to the program's text. -/
def laid_math_bits_deBruijn32tab {H : Type} : DataW H := .agg [.lit (.int .u8 0), .lit (.int .u8 1), .lit (.int .u8 28), .lit (.int .u8 2), .lit (.int .u8 29), .lit (.int .u8 14), .lit (.int .u8 24), .lit (.int .u8 3), .lit (.int .u8 30), .lit (.int .u8 22), .lit (.int .u8 20), .lit (.int .u8 15), .lit (.int .u8 25), .lit (.int .u8 17), .lit (.int .u8 4), .lit (.int .u8 8), .lit (.int .u8 31), .lit (.int .u8 27), .lit (.int .u8 13), .lit (.int .u8 23), .lit (.int .u8 21), .lit (.int .u8 19), .lit (.int .u8 16), .lit (.int .u8 7), .lit (.int .u8 26), .lit (.int .u8 12), .lit (.int .u8 18), .lit (.int .u8 6), .lit (.int .u8 11), .lit (.int .u8 5), .lit (.int .u8 10), .lit (.int .u8 9)]
def laid_math_bits_deBruijn64tab {H : Type} : DataW H := .agg [.lit (.int .u8 0), .lit (.int .u8 1), .lit (.int .u8 56), .lit (.int .u8 2), .lit (.int .u8 57), .lit (.int .u8 49), .lit (.int .u8 28), .lit (.int .u8 3), .lit (.int .u8 61), .lit (.int .u8 58), .lit (.int .u8 42), .lit (.int .u8 50), .lit (.int .u8 38), .lit (.int .u8 29), .lit (.int .u8 17), .lit (.int .u8 4), .lit (.int .u8 62), .lit (.int .u8 47), .lit (.int .u8 59), .lit (.int .u8 36), .lit (.int .u8 45), .lit (.int .u8 43), .lit (.int .u8 51), .lit (.int .u8 22), .lit (.int .u8 53), .lit (.int .u8 39), .lit (.int .u8 33), .lit (.int .u8 30), .lit (.int .u8 24), .lit (.int .u8 18), .lit (.int .u8 12), .lit (.int .u8 5), .lit (.int .u8 63), .lit (.int .u8 55), .lit (.int .u8 48), .lit (.int .u8 27), .lit (.int .u8 60), .lit (.int .u8 41), .lit (.int .u8 37), .lit (.int .u8 16), .lit (.int .u8 46), .lit (.int .u8 35), .lit (.int .u8 44), .lit (.int .u8 21), .lit (.int .u8 52), .lit (.int .u8 32), .lit (.int .u8 23), .lit (.int .u8 11), .lit (.int .u8 54), .lit (.int .u8 26), .lit (.int .u8 40), .lit (.int .u8 15), .lit (.int .u8 34), .lit (.int .u8 20), .lit (.int .u8 31), .lit (.int .u8 10), .lit (.int .u8 25), .lit (.int .u8 14), .lit (.int .u8 19), .lit (.int .u8 9), .lit (.int .u8 13), .lit (.int .u8 8), .lit (.int .u8 7), .lit (.int .u8 6)]
def laid_internal_strconv_uint64pow10 {H : Type} : DataW H := .agg [.lit (.int .u64 1), .lit (.int .u64 10), .lit (.int .u64 100), .lit (.int .u64 1000), .lit (.int .u64 10000), .lit (.int .u64 100000), .lit (.int .u64 1000000), .lit (.int .u64 10000000), .lit (.int .u64 100000000), .lit (.int .u64 1000000000), .lit (.int .u64 10000000000), .lit (.int .u64 100000000000), .lit (.int .u64 1000000000000), .lit (.int .u64 10000000000000), .lit (.int .u64 100000000000000), .lit (.int .u64 1000000000000000), .lit (.int .u64 10000000000000000), .lit (.int .u64 100000000000000000), .lit (.int .u64 1000000000000000000), .lit (.int .u64 10000000000000000000)]
def laid_unicode_utf8_acceptRanges {H : Type} : DataW H := .agg [.agg [.lit (.int .u8 128), .lit (.int .u8 191)], .agg [.lit (.int .u8 160), .lit (.int .u8 191)], .agg [.lit (.int .u8 128), .lit (.int .u8 159)], .agg [.lit (.int .u8 144), .lit (.int .u8 191)], .agg [.lit (.int .u8 128), .lit (.int .u8 143)], .agg [.lit (.int .u8 0), .lit (.int .u8 0)], .agg [.lit (.int .u8 0), .lit (.int .u8 0)], .agg [.lit (.int .u8 0), .lit (.int .u8 0)], .agg [.lit (.int .u8 0), .lit (.int .u8 0)], .agg [.lit (.int .u8 0), .lit (.int .u8 0)], .agg [.lit (.int .u8 0), .lit (.int .u8 0)], .agg [.lit (.int .u8 0), .lit (.int .u8 0)], .agg [.lit (.int .u8 0), .lit (.int .u8 0)], .agg [.lit (.int .u8 0), .lit (.int .u8 0)], .agg [.lit (.int .u8 0), .lit (.int .u8 0)], .agg [.lit (.int .u8 0), .lit (.int .u8 0)]]
/-- One of Go's own tables, pinned by name: the form's constant. -/
def laid_unicode_utf8_first : DataW Unit := Go.Pinned.utf8First
def laid_strconv_ErrRange {H : Type} : DataW H := .iface "*errors.errorString" (.ptr (.agg [.lit (.string [118, 97, 108, 117, 101, 32, 111, 117, 116, 32, 111, 102, 32, 114, 97, 110, 103, 101])]))
def laid_strconv_ErrSyntax {H : Type} : DataW H := .iface "*errors.errorString" (.ptr (.agg [.lit (.string [105, 110, 118, 97, 108, 105, 100, 32, 115, 121, 110, 116, 97, 120])]))
def laid_backseat_cmd_words {H : Type} : DataW H := .agg [.agg [.lit (.string []), .lit (.string [])], .agg [.lit (.string [115, 101, 108, 101, 99, 116]), .lit (.string [65])], .agg [.lit (.string [110, 101, 120, 116]), .lit (.string [65])], .agg [.lit (.string [102, 108, 105, 112]), .lit (.string [])], .agg [.lit (.string [102, 111, 99, 117, 115]), .lit (.string [65])], .agg [.lit (.string [103, 111]), .lit (.string [65])], .agg [.lit (.string [122, 111, 111, 109]), .lit (.string [])], .agg [.lit (.string [99, 111, 112, 121]), .lit (.string [111])], .agg [.lit (.string [109, 111, 118, 101]), .lit (.string [65, 66])], .agg [.lit (.string [102, 111, 108, 108, 111, 119]), .lit (.string [65])], .agg [.lit (.string [115, 116, 97, 116, 117, 115]), .lit (.string [111])], .agg [.lit (.string [119, 105, 110, 100, 111, 119]), .lit (.string [116])], .agg [.lit (.string [99, 108, 111, 115, 101]), .lit (.string [65])], .agg [.lit (.string [115, 112, 108, 105, 116]), .lit (.string [65])], .agg [.lit (.string [107, 105, 108, 108]), .lit (.string [65])], .agg [.lit (.string [108, 97, 121, 111, 117, 116]), .lit (.string [65])], .agg [.lit (.string [116, 97, 107, 101]), .lit (.string [65])], .agg [.lit (.string [108, 101, 97, 118, 101]), .lit (.string [])], .agg [.lit (.string [115, 101, 110, 100]), .lit (.string [116])], .agg [.lit (.string [121, 97, 110, 107]), .lit (.string [])], .agg [.lit (.string [112, 97, 115, 116, 101]), .lit (.string [])], .agg [.lit (.string [100, 101, 116, 97, 99, 104]), .lit (.string [])]]
def laid_backseat_cmd_bound {H : Type} : DataW H := .agg [.agg [.lit (.string [110]), .agg [.lit (.int .i64 2), .lit (.int .i64 1), .lit (.int .i64 0), .lit (.bool false), .lit (.string [])]], .agg [.lit (.string [112]), .agg [.lit (.int .i64 2), .lit (.int .i64 (-1)), .lit (.int .i64 0), .lit (.bool false), .lit (.string [])]], .agg [.lit (.string [108]), .agg [.lit (.int .i64 3), .lit (.int .i64 0), .lit (.int .i64 0), .lit (.bool false), .lit (.string [])]], .agg [.lit (.string [122]), .agg [.lit (.int .i64 6), .lit (.int .i64 0), .lit (.int .i64 0), .lit (.bool false), .lit (.string [])]], .agg [.lit (.string [76, 101, 102, 116]), .agg [.lit (.int .i64 5), .lit (.int .i64 1), .lit (.int .i64 0), .lit (.bool false), .lit (.string [])]], .agg [.lit (.string [82, 105, 103, 104, 116]), .agg [.lit (.int .i64 5), .lit (.int .i64 2), .lit (.int .i64 0), .lit (.bool false), .lit (.string [])]], .agg [.lit (.string [85, 112]), .agg [.lit (.int .i64 5), .lit (.int .i64 3), .lit (.int .i64 0), .lit (.bool false), .lit (.string [])]], .agg [.lit (.string [68, 111, 119, 110]), .agg [.lit (.int .i64 5), .lit (.int .i64 4), .lit (.int .i64 0), .lit (.bool false), .lit (.string [])]], .agg [.lit (.string [91]), .agg [.lit (.int .i64 7), .lit (.int .i64 0), .lit (.int .i64 0), .lit (.bool true), .lit (.string [])]], .agg [.lit (.string [113]), .agg [.lit (.int .i64 7), .lit (.int .i64 0), .lit (.int .i64 0), .lit (.bool false), .lit (.string [])]], .agg [.lit (.string [107]), .agg [.lit (.int .i64 8), .lit (.int .i64 (-1)), .lit (.int .i64 0), .lit (.bool false), .lit (.string [])]], .agg [.lit (.string [106]), .agg [.lit (.int .i64 8), .lit (.int .i64 1), .lit (.int .i64 0), .lit (.bool false), .lit (.string [])]], .agg [.lit (.string [99]), .agg [.lit (.int .i64 11), .lit (.int .i64 0), .lit (.int .i64 0), .lit (.bool false), .lit (.string [119])]], .agg [.lit (.string [37]), .agg [.lit (.int .i64 13), .lit (.int .i64 1), .lit (.int .i64 0), .lit (.bool false), .lit (.string [])]], .agg [.lit (.string [34]), .agg [.lit (.int .i64 13), .lit (.int .i64 2), .lit (.int .i64 0), .lit (.bool false), .lit (.string [])]], .agg [.lit (.string [120]), .agg [.lit (.int .i64 14), .lit (.int .i64 0), .lit (.int .i64 0), .lit (.bool false), .lit (.string [])]], .agg [.lit (.string [121]), .agg [.lit (.int .i64 19), .lit (.int .i64 0), .lit (.int .i64 0), .lit (.bool false), .lit (.string [])]], .agg [.lit (.string [93]), .agg [.lit (.int .i64 20), .lit (.int .i64 0), .lit (.int .i64 0), .lit (.bool false), .lit (.string [])]], .agg [.lit (.string [116]), .agg [.lit (.int .i64 16), .lit (.int .i64 20), .lit (.int .i64 0), .lit (.bool false), .lit (.string [])]], .agg [.lit (.string [103]), .agg [.lit (.int .i64 17), .lit (.int .i64 0), .lit (.int .i64 0), .lit (.bool false), .lit (.string [])]], .agg [.lit (.string [100]), .agg [.lit (.int .i64 21), .lit (.int .i64 0), .lit (.int .i64 0), .lit (.bool false), .lit (.string [])]]]

/-- 'backseatlaw20.DiffRows': WHATEVER THE INPUT: true; the input reads as it did. -/
def diffRowsSpec : ChangeSpec := { name := "diffRows", fn := fun _ => fun
  | [d1, d2] => { results := [.lit (.bool true)], args := [d1, d2] }
  | _ => none }
def diffRowsRow : OpenClaim := { program := "ytdlbnlbajnafdaadoor", sum := "699e47db9e703f9cd72220171686542f0e7320fe533d038891113293c1c76606", func := "backseat/backseatlaw20.DiffRows", spec := "diffRows", inPlace := ["internal/abi.NoEscape", "internal/bytealg.MakeNoZero"], unfollowed := true, recurses := true, named := ["unicode/utf8.first", "unicode/utf8.acceptRanges", "internal/strconv.uint64pow10", "math/bits.deBruijn32tab", "math/bits.deBruijn64tab"], apart := false, laid := [("math/bits.deBruijn32tab", laid_math_bits_deBruijn32tab), ("math/bits.deBruijn64tab", laid_math_bits_deBruijn64tab), ("internal/strconv.uint64pow10", laid_internal_strconv_uint64pow10), ("unicode/utf8.acceptRanges", laid_unicode_utf8_acceptRanges), ("unicode/utf8.first", laid_unicode_utf8_first)] }
def DiffRowsSaid : Prop := diffRowsRow.holds Tryd.pinned (OpenSpec.ofChange diffRowsSpec)

/-- ITS FALSE NEIGHBOUR: 'it returns false'. Refute it at one input. -/
def diffRowsWrong : ChangeSpec := { name := "diffRows", fn := fun _ => fun
  | [d1, d2] => { results := [.lit (.bool false)], args := [d1, d2] }
  | _ => none }
def DiffRowsWrongFalsely : Prop := diffRowsRow.holds Tryd.pinned (OpenSpec.ofChange diffRowsWrong)

/-- 'backseatlaw13.LstrParses': WHATEVER THE INPUT: true; the input reads as it did. -/
def lstrParsesSpec : ChangeSpec := { name := "lstrParses", fn := fun _ => fun
  | [d] => { results := [.lit (.bool true)], args := [d] }
  | _ => none }
def lstrParsesRow : OpenClaim := { program := "ytdlbnlbajnafdaadoor", sum := "699e47db9e703f9cd72220171686542f0e7320fe533d038891113293c1c76606", func := "backseat/backseatlaw13.LstrParses", spec := "lstrParses", inPlace := ["internal/bytealg.IndexByteString", "internal/bytealg.IndexString", "internal/abi.NoEscape", "internal/bytealg.MakeNoZero"], unfollowed := true, recurses := true, named := ["internal/bytealg.MaxLen", "unicode/utf8.first", "unicode/utf8.acceptRanges", "internal/strconv.uint64pow10", "math/bits.deBruijn32tab", "math/bits.deBruijn64tab"], apart := false, laid := [("math/bits.deBruijn32tab", laid_math_bits_deBruijn32tab), ("math/bits.deBruijn64tab", laid_math_bits_deBruijn64tab), ("internal/strconv.uint64pow10", laid_internal_strconv_uint64pow10), ("unicode/utf8.acceptRanges", laid_unicode_utf8_acceptRanges), ("unicode/utf8.first", laid_unicode_utf8_first)] }
def LstrParsesSaid : Prop := lstrParsesRow.holds Tryd.pinned (OpenSpec.ofChange lstrParsesSpec)

/-- ITS FALSE NEIGHBOUR: 'it returns false'. Refute it at one input. -/
def lstrParsesWrong : ChangeSpec := { name := "lstrParses", fn := fun _ => fun
  | [d] => { results := [.lit (.bool false)], args := [d] }
  | _ => none }
def LstrParsesWrongFalsely : Prop := lstrParsesRow.holds Tryd.pinned (OpenSpec.ofChange lstrParsesWrong)

/-- 'backseatlaw13.LstrBack': WHATEVER THE INPUT: true; the input reads as it did. -/
def lstrBackSpec : ChangeSpec := { name := "lstrBack", fn := fun _ => fun
  | [d1, d2, d3, d4, d5, d6, d7] => { results := [.lit (.bool true)], args := [d1, d2, d3, d4, d5, d6, d7] }
  | _ => none }
def lstrBackRow : OpenClaim := { program := "ytdlbnlbajnafdaadoor", sum := "699e47db9e703f9cd72220171686542f0e7320fe533d038891113293c1c76606", func := "backseat/backseatlaw13.LstrBack", spec := "lstrBack", inPlace := ["internal/abi.NoEscape", "internal/bytealg.MakeNoZero", "internal/bytealg.IndexByteString", "internal/bytealg.IndexString"], unfollowed := true, recurses := true, named := ["internal/strconv.uint64pow10", "math/bits.deBruijn32tab", "math/bits.deBruijn64tab", "internal/bytealg.MaxLen", "unicode/utf8.first", "unicode/utf8.acceptRanges"], loops := true, apart := false, laid := [("math/bits.deBruijn32tab", laid_math_bits_deBruijn32tab), ("math/bits.deBruijn64tab", laid_math_bits_deBruijn64tab), ("internal/strconv.uint64pow10", laid_internal_strconv_uint64pow10), ("unicode/utf8.acceptRanges", laid_unicode_utf8_acceptRanges), ("unicode/utf8.first", laid_unicode_utf8_first)] }
def LstrBackSaid : Prop := lstrBackRow.holds Tryd.pinned (OpenSpec.ofChange lstrBackSpec)

/-- ITS FALSE NEIGHBOUR: 'it returns false'. Refute it at one input. -/
def lstrBackWrong : ChangeSpec := { name := "lstrBack", fn := fun _ => fun
  | [d1, d2, d3, d4, d5, d6, d7] => { results := [.lit (.bool false)], args := [d1, d2, d3, d4, d5, d6, d7] }
  | _ => none }
def LstrBackWrongFalsely : Prop := lstrBackRow.holds Tryd.pinned (OpenSpec.ofChange lstrBackWrong)

/-- 'backseatlaw21.CmdParses': WHATEVER THE INPUT: true; the input reads as it did. -/
def cmdParsesSpec : ChangeSpec := { name := "cmdParses", fn := fun _ => fun
  | [d] => { results := [.lit (.bool true)], args := [d] }
  | _ => none }
def cmdParsesRow : OpenClaim := { program := "ytdlbnlbajnafdaadoor", sum := "699e47db9e703f9cd72220171686542f0e7320fe533d038891113293c1c76606", func := "backseat/backseatlaw21.CmdParses", spec := "cmdParses", inPlace := ["internal/bytealg.IndexByteString", "internal/bytealg.IndexString"], unfollowed := true, recurses := true, named := ["backseat/cmd.words", "unicode/utf8.first", "unicode/utf8.acceptRanges", "internal/bytealg.MaxLen", "strconv.ErrSyntax", "strconv.ErrRange", "internal/strconv.uint64pow10", "math/bits.deBruijn32tab", "math/bits.deBruijn64tab"], apart := false, laid := [("math/bits.deBruijn32tab", laid_math_bits_deBruijn32tab), ("math/bits.deBruijn64tab", laid_math_bits_deBruijn64tab), ("internal/strconv.uint64pow10", laid_internal_strconv_uint64pow10), ("unicode/utf8.acceptRanges", laid_unicode_utf8_acceptRanges), ("strconv.ErrRange", laid_strconv_ErrRange), ("strconv.ErrSyntax", laid_strconv_ErrSyntax), ("backseat/cmd.words", laid_backseat_cmd_words), ("unicode/utf8.first", laid_unicode_utf8_first)] }
def CmdParsesSaid : Prop := cmdParsesRow.holds Tryd.pinned (OpenSpec.ofChange cmdParsesSpec)

/-- ITS FALSE NEIGHBOUR: 'it returns false'. Refute it at one input. -/
def cmdParsesWrong : ChangeSpec := { name := "cmdParses", fn := fun _ => fun
  | [d] => { results := [.lit (.bool false)], args := [d] }
  | _ => none }
def CmdParsesWrongFalsely : Prop := cmdParsesRow.holds Tryd.pinned (OpenSpec.ofChange cmdParsesWrong)

/-- 'backseatlaw21.CmdPrints': WHATEVER THE INPUT: true; the input reads as it did. -/
def cmdPrintsSpec : ChangeSpec := { name := "cmdPrints", fn := fun _ => fun
  | [d1, d2] => { results := [.lit (.bool true)], args := [d1, d2] }
  | _ => none }
def cmdPrintsRow : OpenClaim := { program := "ytdlbnlbajnafdaadoor", sum := "699e47db9e703f9cd72220171686542f0e7320fe533d038891113293c1c76606", func := "backseat/backseatlaw21.CmdPrints", spec := "cmdPrints", inPlace := ["internal/bytealg.IndexByteString", "internal/bytealg.IndexString", "internal/abi.NoEscape", "internal/bytealg.MakeNoZero"], unfollowed := true, recurses := true, named := ["backseat/cmd.words", "unicode/utf8.first", "unicode/utf8.acceptRanges", "internal/bytealg.MaxLen", "internal/strconv.uint64pow10", "math/bits.deBruijn32tab", "math/bits.deBruijn64tab", "backseat/cmd.bound", "strconv.ErrSyntax", "strconv.ErrRange"], apart := false, laid := [("math/bits.deBruijn32tab", laid_math_bits_deBruijn32tab), ("math/bits.deBruijn64tab", laid_math_bits_deBruijn64tab), ("internal/strconv.uint64pow10", laid_internal_strconv_uint64pow10), ("unicode/utf8.acceptRanges", laid_unicode_utf8_acceptRanges), ("strconv.ErrRange", laid_strconv_ErrRange), ("strconv.ErrSyntax", laid_strconv_ErrSyntax), ("backseat/cmd.words", laid_backseat_cmd_words), ("backseat/cmd.bound", laid_backseat_cmd_bound), ("unicode/utf8.first", laid_unicode_utf8_first)] }
def CmdPrintsSaid : Prop := cmdPrintsRow.holds Tryd.pinned (OpenSpec.ofChange cmdPrintsSpec)

/-- ITS FALSE NEIGHBOUR: 'it returns false'. Refute it at one input. -/
def cmdPrintsWrong : ChangeSpec := { name := "cmdPrints", fn := fun _ => fun
  | [d1, d2] => { results := [.lit (.bool false)], args := [d1, d2] }
  | _ => none }
def CmdPrintsWrongFalsely : Prop := cmdPrintsRow.holds Tryd.pinned (OpenSpec.ofChange cmdPrintsWrong)

/-- 'backseatlaw21.CmdBack': WHATEVER THE INPUT: true; the input reads as it did. -/
def cmdBackSpec : ChangeSpec := { name := "cmdBack", fn := fun _ => fun
  | [d1, d2, d3, d4] => { results := [.lit (.bool true)], args := [d1, d2, d3, d4] }
  | _ => none }
def cmdBackRow : OpenClaim := { program := "ytdlbnlbajnafdaadoor", sum := "699e47db9e703f9cd72220171686542f0e7320fe533d038891113293c1c76606", func := "backseat/backseatlaw21.CmdBack", spec := "cmdBack", inPlace := ["internal/bytealg.IndexByteString", "internal/bytealg.IndexString", "internal/abi.NoEscape", "internal/bytealg.MakeNoZero"], unfollowed := true, recurses := true, named := ["backseat/cmd.words", "unicode/utf8.first", "unicode/utf8.acceptRanges", "internal/bytealg.MaxLen", "internal/strconv.uint64pow10", "math/bits.deBruijn32tab", "math/bits.deBruijn64tab", "strconv.ErrSyntax", "strconv.ErrRange"], apart := false, laid := [("math/bits.deBruijn32tab", laid_math_bits_deBruijn32tab), ("math/bits.deBruijn64tab", laid_math_bits_deBruijn64tab), ("internal/strconv.uint64pow10", laid_internal_strconv_uint64pow10), ("unicode/utf8.acceptRanges", laid_unicode_utf8_acceptRanges), ("strconv.ErrRange", laid_strconv_ErrRange), ("strconv.ErrSyntax", laid_strconv_ErrSyntax), ("backseat/cmd.words", laid_backseat_cmd_words), ("unicode/utf8.first", laid_unicode_utf8_first)] }
def CmdBackSaid : Prop := cmdBackRow.holds Tryd.pinned (OpenSpec.ofChange cmdBackSpec)

/-- ITS FALSE NEIGHBOUR: 'it returns false'. Refute it at one input. -/
def cmdBackWrong : ChangeSpec := { name := "cmdBack", fn := fun _ => fun
  | [d1, d2, d3, d4] => { results := [.lit (.bool false)], args := [d1, d2, d3, d4] }
  | _ => none }
def CmdBackWrongFalsely : Prop := cmdBackRow.holds Tryd.pinned (OpenSpec.ofChange cmdBackWrong)

/- THE SECOND FORM. 'bulk': how many values and letters a reading holds, each counted each time it is reached (what is shared counts as often as it is met; a slice's spare places count too). A statement '..UptoSaid' is the law's where the arguments, and the package variables that the reading takes, are together of bulk at most 1048576: NARROWER than '..Said'. Prove '..Said' where nothing that the law and all that it calls make is longer than what came in: it says more and counts as full. Else prove '..UptoSaid'. A law counts once. -/
mutual
def uptoBulk {H : Type} : DataW H → Nat
  | .lit (.string bytes) => bytes.length + 1
  | .lit _ => 1
  | .nil => 1
  | .ptr d => uptoBulk d + 1
  | .slice elems spare => uptoBulkAll elems + uptoBulkAll spare + 1
  | .agg parts => uptoBulkAll parts + 1
  | .iface _ d => uptoBulk d + 1
  | .map entries => uptoBulkEntries entries + 1
  | .held _ => 1
def uptoBulkAll {H : Type} : List (DataW H) → Nat
  | [] => 0
  | d :: r => uptoBulk d + uptoBulkAll r
def uptoBulkEntries {H : Type} : List (Lit × DataW H) → Nat
  | [] => 0
  | x :: r => uptoBulkEntry x + uptoBulkEntries r
def uptoBulkEntry {H : Type} : Lit × DataW H → Nat
  | (.string bytes, d) => bytes.length + uptoBulk d + 1
  | (_, d) => uptoBulk d + 1
 end
def uptoSmall : (H : Type) → List (DataW H) → Bool := fun _ ds => decide (uptoBulkAll ds ≤ 1048576)
def OpenSpec.upto (s : _root_.Go.ChangeSpec) : _root_.Go.OpenSpec := { _root_.Go.OpenSpec.ofChange s with cond := some uptoSmall }

/-- 'backseatlaw20.DiffRows', WHERE WHAT IT READS IS OF BULK AT MOST 1048576: true; the input reads as it did. -/
def diffRowsUptoRow : OpenClaim := { program := "ytdlbnlbajnafdaadoor", sum := "699e47db9e703f9cd72220171686542f0e7320fe533d038891113293c1c76606", func := "backseat/backseatlaw20.DiffRows", spec := "diffRows", inPlace := ["internal/abi.NoEscape", "internal/bytealg.MakeNoZero"], unfollowed := true, recurses := true, named := ["unicode/utf8.first", "unicode/utf8.acceptRanges", "internal/strconv.uint64pow10", "math/bits.deBruijn32tab", "math/bits.deBruijn64tab"], apart := false, laid := [("math/bits.deBruijn32tab", laid_math_bits_deBruijn32tab), ("math/bits.deBruijn64tab", laid_math_bits_deBruijn64tab), ("internal/strconv.uint64pow10", laid_internal_strconv_uint64pow10), ("unicode/utf8.acceptRanges", laid_unicode_utf8_acceptRanges), ("unicode/utf8.first", laid_unicode_utf8_first)], narrowed := true }
def DiffRowsUptoSaid : Prop := diffRowsUptoRow.holds Tryd.pinned (OpenSpec.upto diffRowsSpec)

/-- 'backseatlaw13.LstrParses', WHERE WHAT IT READS IS OF BULK AT MOST 1048576: true; the input reads as it did. -/
def lstrParsesUptoRow : OpenClaim := { program := "ytdlbnlbajnafdaadoor", sum := "699e47db9e703f9cd72220171686542f0e7320fe533d038891113293c1c76606", func := "backseat/backseatlaw13.LstrParses", spec := "lstrParses", inPlace := ["internal/bytealg.IndexByteString", "internal/bytealg.IndexString", "internal/abi.NoEscape", "internal/bytealg.MakeNoZero"], unfollowed := true, recurses := true, named := ["internal/bytealg.MaxLen", "unicode/utf8.first", "unicode/utf8.acceptRanges", "internal/strconv.uint64pow10", "math/bits.deBruijn32tab", "math/bits.deBruijn64tab"], apart := false, laid := [("math/bits.deBruijn32tab", laid_math_bits_deBruijn32tab), ("math/bits.deBruijn64tab", laid_math_bits_deBruijn64tab), ("internal/strconv.uint64pow10", laid_internal_strconv_uint64pow10), ("unicode/utf8.acceptRanges", laid_unicode_utf8_acceptRanges), ("unicode/utf8.first", laid_unicode_utf8_first)], narrowed := true }
def LstrParsesUptoSaid : Prop := lstrParsesUptoRow.holds Tryd.pinned (OpenSpec.upto lstrParsesSpec)

/-- 'backseatlaw13.LstrBack', WHERE WHAT IT READS IS OF BULK AT MOST 1048576: true; the input reads as it did. -/
def lstrBackUptoRow : OpenClaim := { program := "ytdlbnlbajnafdaadoor", sum := "699e47db9e703f9cd72220171686542f0e7320fe533d038891113293c1c76606", func := "backseat/backseatlaw13.LstrBack", spec := "lstrBack", inPlace := ["internal/abi.NoEscape", "internal/bytealg.MakeNoZero", "internal/bytealg.IndexByteString", "internal/bytealg.IndexString"], unfollowed := true, recurses := true, named := ["internal/strconv.uint64pow10", "math/bits.deBruijn32tab", "math/bits.deBruijn64tab", "internal/bytealg.MaxLen", "unicode/utf8.first", "unicode/utf8.acceptRanges"], loops := true, apart := false, laid := [("math/bits.deBruijn32tab", laid_math_bits_deBruijn32tab), ("math/bits.deBruijn64tab", laid_math_bits_deBruijn64tab), ("internal/strconv.uint64pow10", laid_internal_strconv_uint64pow10), ("unicode/utf8.acceptRanges", laid_unicode_utf8_acceptRanges), ("unicode/utf8.first", laid_unicode_utf8_first)], narrowed := true }
def LstrBackUptoSaid : Prop := lstrBackUptoRow.holds Tryd.pinned (OpenSpec.upto lstrBackSpec)

/-- 'backseatlaw21.CmdParses', WHERE WHAT IT READS IS OF BULK AT MOST 1048576: true; the input reads as it did. -/
def cmdParsesUptoRow : OpenClaim := { program := "ytdlbnlbajnafdaadoor", sum := "699e47db9e703f9cd72220171686542f0e7320fe533d038891113293c1c76606", func := "backseat/backseatlaw21.CmdParses", spec := "cmdParses", inPlace := ["internal/bytealg.IndexByteString", "internal/bytealg.IndexString"], unfollowed := true, recurses := true, named := ["backseat/cmd.words", "unicode/utf8.first", "unicode/utf8.acceptRanges", "internal/bytealg.MaxLen", "strconv.ErrSyntax", "strconv.ErrRange", "internal/strconv.uint64pow10", "math/bits.deBruijn32tab", "math/bits.deBruijn64tab"], apart := false, laid := [("math/bits.deBruijn32tab", laid_math_bits_deBruijn32tab), ("math/bits.deBruijn64tab", laid_math_bits_deBruijn64tab), ("internal/strconv.uint64pow10", laid_internal_strconv_uint64pow10), ("unicode/utf8.acceptRanges", laid_unicode_utf8_acceptRanges), ("strconv.ErrRange", laid_strconv_ErrRange), ("strconv.ErrSyntax", laid_strconv_ErrSyntax), ("backseat/cmd.words", laid_backseat_cmd_words), ("unicode/utf8.first", laid_unicode_utf8_first)], narrowed := true }
def CmdParsesUptoSaid : Prop := cmdParsesUptoRow.holds Tryd.pinned (OpenSpec.upto cmdParsesSpec)

/-- 'backseatlaw21.CmdPrints', WHERE WHAT IT READS IS OF BULK AT MOST 1048576: true; the input reads as it did. -/
def cmdPrintsUptoRow : OpenClaim := { program := "ytdlbnlbajnafdaadoor", sum := "699e47db9e703f9cd72220171686542f0e7320fe533d038891113293c1c76606", func := "backseat/backseatlaw21.CmdPrints", spec := "cmdPrints", inPlace := ["internal/bytealg.IndexByteString", "internal/bytealg.IndexString", "internal/abi.NoEscape", "internal/bytealg.MakeNoZero"], unfollowed := true, recurses := true, named := ["backseat/cmd.words", "unicode/utf8.first", "unicode/utf8.acceptRanges", "internal/bytealg.MaxLen", "internal/strconv.uint64pow10", "math/bits.deBruijn32tab", "math/bits.deBruijn64tab", "backseat/cmd.bound", "strconv.ErrSyntax", "strconv.ErrRange"], apart := false, laid := [("math/bits.deBruijn32tab", laid_math_bits_deBruijn32tab), ("math/bits.deBruijn64tab", laid_math_bits_deBruijn64tab), ("internal/strconv.uint64pow10", laid_internal_strconv_uint64pow10), ("unicode/utf8.acceptRanges", laid_unicode_utf8_acceptRanges), ("strconv.ErrRange", laid_strconv_ErrRange), ("strconv.ErrSyntax", laid_strconv_ErrSyntax), ("backseat/cmd.words", laid_backseat_cmd_words), ("backseat/cmd.bound", laid_backseat_cmd_bound), ("unicode/utf8.first", laid_unicode_utf8_first)], narrowed := true }
def CmdPrintsUptoSaid : Prop := cmdPrintsUptoRow.holds Tryd.pinned (OpenSpec.upto cmdPrintsSpec)

/-- 'backseatlaw21.CmdBack', WHERE WHAT IT READS IS OF BULK AT MOST 1048576: true; the input reads as it did. -/
def cmdBackUptoRow : OpenClaim := { program := "ytdlbnlbajnafdaadoor", sum := "699e47db9e703f9cd72220171686542f0e7320fe533d038891113293c1c76606", func := "backseat/backseatlaw21.CmdBack", spec := "cmdBack", inPlace := ["internal/bytealg.IndexByteString", "internal/bytealg.IndexString", "internal/abi.NoEscape", "internal/bytealg.MakeNoZero"], unfollowed := true, recurses := true, named := ["backseat/cmd.words", "unicode/utf8.first", "unicode/utf8.acceptRanges", "internal/bytealg.MaxLen", "internal/strconv.uint64pow10", "math/bits.deBruijn32tab", "math/bits.deBruijn64tab", "strconv.ErrSyntax", "strconv.ErrRange"], apart := false, laid := [("math/bits.deBruijn32tab", laid_math_bits_deBruijn32tab), ("math/bits.deBruijn64tab", laid_math_bits_deBruijn64tab), ("internal/strconv.uint64pow10", laid_internal_strconv_uint64pow10), ("unicode/utf8.acceptRanges", laid_unicode_utf8_acceptRanges), ("strconv.ErrRange", laid_strconv_ErrRange), ("strconv.ErrSyntax", laid_strconv_ErrSyntax), ("backseat/cmd.words", laid_backseat_cmd_words), ("unicode/utf8.first", laid_unicode_utf8_first)], narrowed := true }
def CmdBackUptoSaid : Prop := cmdBackUptoRow.holds Tryd.pinned (OpenSpec.upto cmdBackSpec)

end Rows
end Go.Proofs.YtdlbnlbajnafdaaDoor
