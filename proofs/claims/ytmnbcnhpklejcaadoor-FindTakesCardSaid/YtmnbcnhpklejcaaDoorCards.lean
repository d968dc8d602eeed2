/-
  DERIVED. GIVEN WITH THE SEED: THE CARDS: each row of YtmnbcnhpklejcaaDoorRows.lean that lists a variable, with what it lists TIED to the program's text (the seventh form; the later family's looks); each row that meets fmt, with fmt's text TOLD by the authors' own Lean function (tested against real Go, not proved from fmt's source: count such statements apart). THE CARD IS WHAT COUNTS. Prove the row's statement (the work); the ties are given (YtmnbcnhpklejcaaDoorTie.lean); close each card by the builder's one call (the guide's Derived/Test/ToyasCard.lean, 'card_holds'). Laid BY PROGRAM, IN A SANDBOX (cutbox-door.mjs). By AI agents, Wed Nov 11 2026. No macro, syntax, notation, axiom, sorry.
-/
import Derived.Test.YtmnbcnhpklejcaaDoorRows
import GoSem.ClaimSeven
namespace Go.Proofs.YtmnbcnhpklejcaaDoor
namespace Rows

/-- THE TIED CARD OF 'backseatlaw07.BackKeeps'. -/
def backKeepsCard : Claim7 := { stood := { row := backKeepsRow, standIns := [], harness := (true, "e96874fb469c736737cef53ef6b85b0347687dbb1ca9d1346be19f815b412867"), looks := false }, kinds := [], alts := [], laidByText := true, laidKinds := [.data, .pinned], laidTests := true, laidLooks := .later }
def BackKeepsCardSaid : Prop := Claim7.holds Tryd.pinned (.plain (OpenSpec.ofChange backKeepsSpec)) backKeepsCard

/-- THE TIED CARD OF 'backseatlaw07.BackParts'. -/
def backPartsCard : Claim7 := { stood := { row := backPartsRow, standIns := [], harness := (true, "e96874fb469c736737cef53ef6b85b0347687dbb1ca9d1346be19f815b412867"), looks := false }, kinds := [], alts := [], laidByText := true, laidKinds := [.data, .pinned], laidTests := true, laidLooks := .later }
def BackPartsCardSaid : Prop := Claim7.holds Tryd.pinned (.plain (OpenSpec.ofChange backPartsSpec)) backPartsCard

/-- THE TIED CARD OF 'backseatlaw06.GridMends'. -/
def gridMendsCard : Claim7 := { stood := { row := gridMendsRow, standIns := [], harness := (true, "e96874fb469c736737cef53ef6b85b0347687dbb1ca9d1346be19f815b412867"), looks := false }, kinds := [], alts := [], laidByText := true, laidKinds := [.data, .pinned], laidTests := true, laidLooks := .later }
def GridMendsCardSaid : Prop := Claim7.holds Tryd.pinned (.plain (OpenSpec.ofChange gridMendsSpec)) gridMendsCard

/-- THE TIED CARD OF 'backseatlaw06.GridPuts'. -/
def gridPutsCard : Claim7 := { stood := { row := gridPutsRow, standIns := [], harness := (true, "e96874fb469c736737cef53ef6b85b0347687dbb1ca9d1346be19f815b412867"), looks := false }, kinds := [], alts := [], laidByText := true, laidKinds := [.data, .pinned], laidTests := true, laidLooks := .later }
def GridPutsCardSaid : Prop := Claim7.holds Tryd.pinned (.plain (OpenSpec.ofChange gridPutsSpec)) gridPutsCard

/-- THE TIED CARD OF 'backseatlaw10.FindLooks'. -/
def findLooksCard : Claim7 := { stood := { row := findLooksRow, standIns := [], harness := (true, "e96874fb469c736737cef53ef6b85b0347687dbb1ca9d1346be19f815b412867"), looks := false }, kinds := [], alts := [], laidByText := true, laidKinds := [.data, .pinned], laidTests := true, laidLooks := .later }
def FindLooksCardSaid : Prop := Claim7.holds Tryd.pinned (.plain (OpenSpec.ofChange findLooksSpec)) findLooksCard

/-- THE TIED CARD OF 'backseatlaw10.FindBack'. -/
def findBackCard : Claim7 := { stood := { row := findBackRow, standIns := [], harness := (true, "e96874fb469c736737cef53ef6b85b0347687dbb1ca9d1346be19f815b412867"), looks := false }, kinds := [], alts := [], laidByText := true, laidKinds := [.data, .pinned], laidTests := true, laidLooks := .later }
def FindBackCardSaid : Prop := Claim7.holds Tryd.pinned (.plain (OpenSpec.ofChange findBackSpec)) findBackCard

/-- THE TIED CARD OF 'backseatlaw08.FlowJoins'. -/
def flowJoinsCard : Claim7 := { stood := { row := flowJoinsRow, standIns := [], harness := (true, "e96874fb469c736737cef53ef6b85b0347687dbb1ca9d1346be19f815b412867"), looks := false }, kinds := [], alts := [], laidByText := true, laidKinds := [.data, .pinned], laidTests := true, laidLooks := .later }
def FlowJoinsCardSaid : Prop := Claim7.holds Tryd.pinned (.plain (OpenSpec.ofChange flowJoinsSpec)) flowJoinsCard

/-- THE TIED CARD OF 'backseatlaw06.GridGoes'. -/
def gridGoesCard : Claim7 := { stood := { row := gridGoesRow, standIns := [], harness := (true, "e96874fb469c736737cef53ef6b85b0347687dbb1ca9d1346be19f815b412867"), looks := false }, kinds := [], alts := [], laidByText := true, laidKinds := [.data, .pinned], laidTests := true, laidLooks := .later }
def GridGoesCardSaid : Prop := Claim7.holds Tryd.pinned (.plain (OpenSpec.ofChange gridGoesSpec)) gridGoesCard

/-- THE TIED CARD OF 'backseatlaw06.GridStays'. -/
def gridStaysCard : Claim7 := { stood := { row := gridStaysRow, standIns := [], harness := (true, "e96874fb469c736737cef53ef6b85b0347687dbb1ca9d1346be19f815b412867"), looks := false }, kinds := [], alts := [], laidByText := true, laidKinds := [.data, .pinned], laidTests := true, laidLooks := .later }
def GridStaysCardSaid : Prop := Claim7.holds Tryd.pinned (.plain (OpenSpec.ofChange gridStaysSpec)) gridStaysCard

/-- THE TIED CARD OF 'backseatlaw08.FlowFolds'. -/
def flowFoldsCard : Claim7 := { stood := { row := flowFoldsRow, standIns := [], harness := (true, "e96874fb469c736737cef53ef6b85b0347687dbb1ca9d1346be19f815b412867"), looks := false }, kinds := [], alts := [], laidByText := true, laidKinds := [.data, .pinned], laidTests := true, laidLooks := .later }
def FlowFoldsCardSaid : Prop := Claim7.holds Tryd.pinned (.plain (OpenSpec.ofChange flowFoldsSpec)) flowFoldsCard

/-- THE TIED CARD OF 'backseatlaw08.FlowTurns'. -/
def flowTurnsCard : Claim7 := { stood := { row := flowTurnsRow, standIns := [], harness := (true, "e96874fb469c736737cef53ef6b85b0347687dbb1ca9d1346be19f815b412867"), looks := false }, kinds := [], alts := [], laidByText := true, laidKinds := [.data, .pinned], laidTests := true, laidLooks := .later }
def FlowTurnsCardSaid : Prop := Claim7.holds Tryd.pinned (.plain (OpenSpec.ofChange flowTurnsSpec)) flowTurnsCard

/-- THE TIED CARD OF 'backseatlaw10.FindTakes'. -/
def findTakesCard : Claim7 := { stood := { row := findTakesRow, standIns := [], harness := (true, "e96874fb469c736737cef53ef6b85b0347687dbb1ca9d1346be19f815b412867"), looks := false }, kinds := [], alts := [], laidByText := true, laidKinds := [.data, .pinned], laidTests := true, laidLooks := .later }
def FindTakesCardSaid : Prop := Claim7.holds Tryd.pinned (.plain (OpenSpec.ofChange findTakesSpec)) findTakesCard

/-- THE SECOND FORM's CARD OF 'backseatlaw07.BackKeeps'. -/
def backKeepsUptoCard : Claim7 := { stood := { row := backKeepsUptoRow, standIns := [], harness := (true, "e96874fb469c736737cef53ef6b85b0347687dbb1ca9d1346be19f815b412867"), looks := false }, kinds := [], alts := [], laidByText := true, laidKinds := [.data, .pinned], laidTests := true, laidLooks := .later }
def BackKeepsUptoCardSaid : Prop := Claim7.holds Tryd.pinned (.plain (OpenSpec.upto backKeepsSpec)) backKeepsUptoCard

/-- THE SECOND FORM's CARD OF 'backseatlaw07.BackParts'. -/
def backPartsUptoCard : Claim7 := { stood := { row := backPartsUptoRow, standIns := [], harness := (true, "e96874fb469c736737cef53ef6b85b0347687dbb1ca9d1346be19f815b412867"), looks := false }, kinds := [], alts := [], laidByText := true, laidKinds := [.data, .pinned], laidTests := true, laidLooks := .later }
def BackPartsUptoCardSaid : Prop := Claim7.holds Tryd.pinned (.plain (OpenSpec.upto backPartsSpec)) backPartsUptoCard

/-- THE SECOND FORM's CARD OF 'backseatlaw06.GridMends'. -/
def gridMendsUptoCard : Claim7 := { stood := { row := gridMendsUptoRow, standIns := [], harness := (true, "e96874fb469c736737cef53ef6b85b0347687dbb1ca9d1346be19f815b412867"), looks := false }, kinds := [], alts := [], laidByText := true, laidKinds := [.data, .pinned], laidTests := true, laidLooks := .later }
def GridMendsUptoCardSaid : Prop := Claim7.holds Tryd.pinned (.plain (OpenSpec.upto gridMendsSpec)) gridMendsUptoCard

/-- THE SECOND FORM's CARD OF 'backseatlaw06.GridPuts'. -/
def gridPutsUptoCard : Claim7 := { stood := { row := gridPutsUptoRow, standIns := [], harness := (true, "e96874fb469c736737cef53ef6b85b0347687dbb1ca9d1346be19f815b412867"), looks := false }, kinds := [], alts := [], laidByText := true, laidKinds := [.data, .pinned], laidTests := true, laidLooks := .later }
def GridPutsUptoCardSaid : Prop := Claim7.holds Tryd.pinned (.plain (OpenSpec.upto gridPutsSpec)) gridPutsUptoCard

/-- THE SECOND FORM's CARD OF 'backseatlaw10.FindLooks'. -/
def findLooksUptoCard : Claim7 := { stood := { row := findLooksUptoRow, standIns := [], harness := (true, "e96874fb469c736737cef53ef6b85b0347687dbb1ca9d1346be19f815b412867"), looks := false }, kinds := [], alts := [], laidByText := true, laidKinds := [.data, .pinned], laidTests := true, laidLooks := .later }
def FindLooksUptoCardSaid : Prop := Claim7.holds Tryd.pinned (.plain (OpenSpec.upto findLooksSpec)) findLooksUptoCard

/-- THE SECOND FORM's CARD OF 'backseatlaw10.FindBack'. -/
def findBackUptoCard : Claim7 := { stood := { row := findBackUptoRow, standIns := [], harness := (true, "e96874fb469c736737cef53ef6b85b0347687dbb1ca9d1346be19f815b412867"), looks := false }, kinds := [], alts := [], laidByText := true, laidKinds := [.data, .pinned], laidTests := true, laidLooks := .later }
def FindBackUptoCardSaid : Prop := Claim7.holds Tryd.pinned (.plain (OpenSpec.upto findBackSpec)) findBackUptoCard

/-- THE SECOND FORM's CARD OF 'backseatlaw08.FlowJoins'. -/
def flowJoinsUptoCard : Claim7 := { stood := { row := flowJoinsUptoRow, standIns := [], harness := (true, "e96874fb469c736737cef53ef6b85b0347687dbb1ca9d1346be19f815b412867"), looks := false }, kinds := [], alts := [], laidByText := true, laidKinds := [.data, .pinned], laidTests := true, laidLooks := .later }
def FlowJoinsUptoCardSaid : Prop := Claim7.holds Tryd.pinned (.plain (OpenSpec.upto flowJoinsSpec)) flowJoinsUptoCard

/-- THE SECOND FORM's CARD OF 'backseatlaw06.GridGoes'. -/
def gridGoesUptoCard : Claim7 := { stood := { row := gridGoesUptoRow, standIns := [], harness := (true, "e96874fb469c736737cef53ef6b85b0347687dbb1ca9d1346be19f815b412867"), looks := false }, kinds := [], alts := [], laidByText := true, laidKinds := [.data, .pinned], laidTests := true, laidLooks := .later }
def GridGoesUptoCardSaid : Prop := Claim7.holds Tryd.pinned (.plain (OpenSpec.upto gridGoesSpec)) gridGoesUptoCard

/-- THE SECOND FORM's CARD OF 'backseatlaw06.GridStays'. -/
def gridStaysUptoCard : Claim7 := { stood := { row := gridStaysUptoRow, standIns := [], harness := (true, "e96874fb469c736737cef53ef6b85b0347687dbb1ca9d1346be19f815b412867"), looks := false }, kinds := [], alts := [], laidByText := true, laidKinds := [.data, .pinned], laidTests := true, laidLooks := .later }
def GridStaysUptoCardSaid : Prop := Claim7.holds Tryd.pinned (.plain (OpenSpec.upto gridStaysSpec)) gridStaysUptoCard

/-- THE SECOND FORM's CARD OF 'backseatlaw08.FlowFolds'. -/
def flowFoldsUptoCard : Claim7 := { stood := { row := flowFoldsUptoRow, standIns := [], harness := (true, "e96874fb469c736737cef53ef6b85b0347687dbb1ca9d1346be19f815b412867"), looks := false }, kinds := [], alts := [], laidByText := true, laidKinds := [.data, .pinned], laidTests := true, laidLooks := .later }
def FlowFoldsUptoCardSaid : Prop := Claim7.holds Tryd.pinned (.plain (OpenSpec.upto flowFoldsSpec)) flowFoldsUptoCard

/-- THE SECOND FORM's CARD OF 'backseatlaw08.FlowTurns'. -/
def flowTurnsUptoCard : Claim7 := { stood := { row := flowTurnsUptoRow, standIns := [], harness := (true, "e96874fb469c736737cef53ef6b85b0347687dbb1ca9d1346be19f815b412867"), looks := false }, kinds := [], alts := [], laidByText := true, laidKinds := [.data, .pinned], laidTests := true, laidLooks := .later }
def FlowTurnsUptoCardSaid : Prop := Claim7.holds Tryd.pinned (.plain (OpenSpec.upto flowTurnsSpec)) flowTurnsUptoCard

/-- THE SECOND FORM's CARD OF 'backseatlaw10.FindTakes'. -/
def findTakesUptoCard : Claim7 := { stood := { row := findTakesUptoRow, standIns := [], harness := (true, "e96874fb469c736737cef53ef6b85b0347687dbb1ca9d1346be19f815b412867"), looks := false }, kinds := [], alts := [], laidByText := true, laidKinds := [.data, .pinned], laidTests := true, laidLooks := .later }
def FindTakesUptoCardSaid : Prop := Claim7.holds Tryd.pinned (.plain (OpenSpec.upto findTakesSpec)) findTakesUptoCard
end Rows
end Go.Proofs.YtmnbcnhpklejcaaDoor
