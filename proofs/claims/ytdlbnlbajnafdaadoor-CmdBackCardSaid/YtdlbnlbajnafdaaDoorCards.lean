/-
  DERIVED. GIVEN WITH THE SEED: THE CARDS: each row of YtdlbnlbajnafdaaDoorRows.lean that lists a variable, with what it lists TIED to the program's text (the seventh form; the later family's looks); each row that meets fmt, with fmt's text TOLD by the authors' own Lean function (tested against real Go, not proved from fmt's source: count such statements apart). THE CARD IS WHAT COUNTS. Prove the row's statement (the work); the ties are given (YtdlbnlbajnafdaaDoorTie.lean); close each card by the builder's one call (the guide's Derived/Test/ToyasCard.lean, 'card_holds'). Laid BY PROGRAM, IN A SANDBOX (cutbox-door.mjs). By AI agents, Wed Nov 11 2026. No macro, syntax, notation, axiom, sorry.
-/
import Derived.Test.YtdlbnlbajnafdaaDoorRows
import GoSem.ClaimSeven
namespace Go.Proofs.YtdlbnlbajnafdaaDoor
namespace Rows

/-- THE TIED CARD OF 'backseatlaw20.DiffRows'. -/
def diffRowsCard : Claim7 := { stood := { row := diffRowsRow, standIns := [], harness := (true, "2a5fa996d070aae6553a8d89b42987d14c8373e1c7612374a1733a755d8c05f9"), looks := true }, kinds := [], alts := [], laidByText := true, laidKinds := [.data, .data, .data, .data, .pinned], laidTests := true, laidLooks := .later }
def DiffRowsCardSaid : Prop := Claim7.holds Tryd.pinned (.plain (OpenSpec.ofChange diffRowsSpec)) diffRowsCard

/-- THE TIED CARD OF 'backseatlaw13.LstrParses'. -/
def lstrParsesCard : Claim7 := { stood := { row := lstrParsesRow, standIns := [], harness := (true, "2a5fa996d070aae6553a8d89b42987d14c8373e1c7612374a1733a755d8c05f9"), looks := true }, kinds := [], alts := [], laidByText := true, laidKinds := [.data, .data, .data, .data, .pinned], laidTests := true, laidLooks := .later }
def LstrParsesCardSaid : Prop := Claim7.holds Tryd.pinned (.plain (OpenSpec.ofChange lstrParsesSpec)) lstrParsesCard

/-- THE TIED CARD OF 'backseatlaw13.LstrBack'. -/
def lstrBackCard : Claim7 := { stood := { row := lstrBackRow, standIns := [], harness := (true, "2a5fa996d070aae6553a8d89b42987d14c8373e1c7612374a1733a755d8c05f9"), looks := true }, kinds := [], alts := [], laidByText := true, laidKinds := [.data, .data, .data, .data, .pinned], laidTests := true, laidLooks := .later }
def LstrBackCardSaid : Prop := Claim7.holds Tryd.pinned (.plain (OpenSpec.ofChange lstrBackSpec)) lstrBackCard

/-- THE TIED CARD OF 'backseatlaw21.CmdParses'. -/
def cmdParsesCard : Claim7 := { stood := { row := cmdParsesRow, standIns := [], harness := (true, "2a5fa996d070aae6553a8d89b42987d14c8373e1c7612374a1733a755d8c05f9"), looks := true }, kinds := [], alts := [], laidByText := true, laidKinds := [.data, .data, .data, .data, .sentinel, .sentinel, .widerDeep, .pinned], laidTests := true, laidLooks := .later }
def CmdParsesCardSaid : Prop := Claim7.holds Tryd.pinned (.plain (OpenSpec.ofChange cmdParsesSpec)) cmdParsesCard

/-- THE TIED CARD OF 'backseatlaw21.CmdPrints'. -/
def cmdPrintsCard : Claim7 := { stood := { row := cmdPrintsRow, standIns := [], harness := (true, "2a5fa996d070aae6553a8d89b42987d14c8373e1c7612374a1733a755d8c05f9"), looks := true }, kinds := [], alts := [], laidByText := true, laidKinds := [.data, .data, .data, .data, .sentinel, .sentinel, .widerDeep, .data, .pinned], laidTests := true, laidLooks := .later }
def CmdPrintsCardSaid : Prop := Claim7.holds Tryd.pinned (.plain (OpenSpec.ofChange cmdPrintsSpec)) cmdPrintsCard

/-- THE TIED CARD OF 'backseatlaw21.CmdBack'. -/
def cmdBackCard : Claim7 := { stood := { row := cmdBackRow, standIns := [], harness := (true, "2a5fa996d070aae6553a8d89b42987d14c8373e1c7612374a1733a755d8c05f9"), looks := true }, kinds := [], alts := [], laidByText := true, laidKinds := [.data, .data, .data, .data, .sentinel, .sentinel, .widerDeep, .pinned], laidTests := true, laidLooks := .later }
def CmdBackCardSaid : Prop := Claim7.holds Tryd.pinned (.plain (OpenSpec.ofChange cmdBackSpec)) cmdBackCard

/-- THE SECOND FORM's CARD OF 'backseatlaw20.DiffRows'. -/
def diffRowsUptoCard : Claim7 := { stood := { row := diffRowsUptoRow, standIns := [], harness := (true, "2a5fa996d070aae6553a8d89b42987d14c8373e1c7612374a1733a755d8c05f9"), looks := true }, kinds := [], alts := [], laidByText := true, laidKinds := [.data, .data, .data, .data, .pinned], laidTests := true, laidLooks := .later }
def DiffRowsUptoCardSaid : Prop := Claim7.holds Tryd.pinned (.plain (OpenSpec.upto diffRowsSpec)) diffRowsUptoCard

/-- THE SECOND FORM's CARD OF 'backseatlaw13.LstrParses'. -/
def lstrParsesUptoCard : Claim7 := { stood := { row := lstrParsesUptoRow, standIns := [], harness := (true, "2a5fa996d070aae6553a8d89b42987d14c8373e1c7612374a1733a755d8c05f9"), looks := true }, kinds := [], alts := [], laidByText := true, laidKinds := [.data, .data, .data, .data, .pinned], laidTests := true, laidLooks := .later }
def LstrParsesUptoCardSaid : Prop := Claim7.holds Tryd.pinned (.plain (OpenSpec.upto lstrParsesSpec)) lstrParsesUptoCard

/-- THE SECOND FORM's CARD OF 'backseatlaw13.LstrBack'. -/
def lstrBackUptoCard : Claim7 := { stood := { row := lstrBackUptoRow, standIns := [], harness := (true, "2a5fa996d070aae6553a8d89b42987d14c8373e1c7612374a1733a755d8c05f9"), looks := true }, kinds := [], alts := [], laidByText := true, laidKinds := [.data, .data, .data, .data, .pinned], laidTests := true, laidLooks := .later }
def LstrBackUptoCardSaid : Prop := Claim7.holds Tryd.pinned (.plain (OpenSpec.upto lstrBackSpec)) lstrBackUptoCard

/-- THE SECOND FORM's CARD OF 'backseatlaw21.CmdParses'. -/
def cmdParsesUptoCard : Claim7 := { stood := { row := cmdParsesUptoRow, standIns := [], harness := (true, "2a5fa996d070aae6553a8d89b42987d14c8373e1c7612374a1733a755d8c05f9"), looks := true }, kinds := [], alts := [], laidByText := true, laidKinds := [.data, .data, .data, .data, .sentinel, .sentinel, .widerDeep, .pinned], laidTests := true, laidLooks := .later }
def CmdParsesUptoCardSaid : Prop := Claim7.holds Tryd.pinned (.plain (OpenSpec.upto cmdParsesSpec)) cmdParsesUptoCard

/-- THE SECOND FORM's CARD OF 'backseatlaw21.CmdPrints'. -/
def cmdPrintsUptoCard : Claim7 := { stood := { row := cmdPrintsUptoRow, standIns := [], harness := (true, "2a5fa996d070aae6553a8d89b42987d14c8373e1c7612374a1733a755d8c05f9"), looks := true }, kinds := [], alts := [], laidByText := true, laidKinds := [.data, .data, .data, .data, .sentinel, .sentinel, .widerDeep, .data, .pinned], laidTests := true, laidLooks := .later }
def CmdPrintsUptoCardSaid : Prop := Claim7.holds Tryd.pinned (.plain (OpenSpec.upto cmdPrintsSpec)) cmdPrintsUptoCard

/-- THE SECOND FORM's CARD OF 'backseatlaw21.CmdBack'. -/
def cmdBackUptoCard : Claim7 := { stood := { row := cmdBackUptoRow, standIns := [], harness := (true, "2a5fa996d070aae6553a8d89b42987d14c8373e1c7612374a1733a755d8c05f9"), looks := true }, kinds := [], alts := [], laidByText := true, laidKinds := [.data, .data, .data, .data, .sentinel, .sentinel, .widerDeep, .pinned], laidTests := true, laidLooks := .later }
def CmdBackUptoCardSaid : Prop := Claim7.holds Tryd.pinned (.plain (OpenSpec.upto cmdBackSpec)) cmdBackUptoCard
end Rows
end Go.Proofs.YtdlbnlbajnafdaaDoor
