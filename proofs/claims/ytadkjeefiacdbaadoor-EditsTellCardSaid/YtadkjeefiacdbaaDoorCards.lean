/-
  DERIVED. GIVEN WITH THE SEED: THE CARDS: each row of YtadkjeefiacdbaaDoorRows.lean that lists a variable, with what it lists TIED to the program's text (the seventh form; the later family's looks); each row that meets fmt, with fmt's text TOLD by the authors' own Lean function (tested against real Go, not proved from fmt's source: count such statements apart). THE CARD IS WHAT COUNTS. Prove the row's statement (the work); the ties are given (YtadkjeefiacdbaaDoorTie.lean); close each card by the builder's one call (the guide's Derived/Test/ToyasCard.lean, 'card_holds'). Laid BY PROGRAM, IN A SANDBOX (cutbox-door.mjs). By AI agents, Wed Nov 11 2026. No macro, syntax, notation, axiom, sorry.
-/
import Derived.Test.YtadkjeefiacdbaaDoorRows
import GoSem.ClaimSeven
namespace Go.Proofs.YtadkjeefiacdbaaDoor
namespace Rows

/-- THE TIED CARD OF 'boltholelaw05.LinesTell'. -/
def linesTellCard : Claim7 := { stood := { row := linesTellRow, standIns := [], harness := (true, "747263fe0736a51fd4b2e8928c5540c49342ad3e56730dd34909926aeca0098d"), looks := false }, kinds := [], alts := [], laidByText := true, laidKinds := [.data, .pinned], laidTests := true, laidLooks := .later }
def LinesTellCardSaid : Prop := Claim7.holds Tryd.pinned (.plain (OpenSpec.ofChange linesTellSpec)) linesTellCard

/-- THE TIED CARD OF 'boltholelaw05.LinesBack'. -/
def linesBackCard : Claim7 := { stood := { row := linesBackRow, standIns := [], harness := (true, "747263fe0736a51fd4b2e8928c5540c49342ad3e56730dd34909926aeca0098d"), looks := false }, kinds := [], alts := [], laidByText := true, laidKinds := [.data, .pinned], laidTests := true, laidLooks := .later }
def LinesBackCardSaid : Prop := Claim7.holds Tryd.pinned (.plain (OpenSpec.ofChange linesBackSpec)) linesBackCard

/-- THE TIED CARD OF 'boltholelaw05.LinesJoin'. -/
def linesJoinCard : Claim7 := { stood := { row := linesJoinRow, standIns := [], harness := (true, "747263fe0736a51fd4b2e8928c5540c49342ad3e56730dd34909926aeca0098d"), looks := false }, kinds := [], alts := [], laidByText := true, laidKinds := [.data, .pinned], laidTests := true, laidLooks := .later }
def LinesJoinCardSaid : Prop := Claim7.holds Tryd.pinned (.plain (OpenSpec.ofChange linesJoinSpec)) linesJoinCard

/-- THE TIED CARD OF 'boltholelaw05.LinesNil'. -/
def linesNilCard : Claim7 := { stood := { row := linesNilRow, standIns := [], harness := (true, "747263fe0736a51fd4b2e8928c5540c49342ad3e56730dd34909926aeca0098d"), looks := false }, kinds := [], alts := [], laidByText := true, laidKinds := [.data, .pinned], laidTests := true, laidLooks := .later }
def LinesNilCardSaid : Prop := Claim7.holds Tryd.pinned (.plain (OpenSpec.ofChange linesNilSpec)) linesNilCard

/-- THE TIED CARD OF 'boltholelaw06.EditsApply'. -/
def editsApplyCard : Claim7 := { stood := { row := editsApplyRow, standIns := [], harness := (true, "747263fe0736a51fd4b2e8928c5540c49342ad3e56730dd34909926aeca0098d"), looks := false }, kinds := [], alts := [], laidByText := true, laidKinds := [.data, .pinned], laidTests := true, laidLooks := .later }
def EditsApplyCardSaid : Prop := Claim7.holds Tryd.pinned (.plain (OpenSpec.ofChange editsApplySpec)) editsApplyCard

/-- THE TIED CARD OF 'boltholelaw06.EditsTell'. -/
def editsTellCard : Claim7 := { stood := { row := editsTellRow, standIns := [], harness := (true, "747263fe0736a51fd4b2e8928c5540c49342ad3e56730dd34909926aeca0098d"), looks := false }, kinds := [], alts := [], laidByText := true, laidKinds := [.data, .pinned], laidTests := true, laidLooks := .later }
def EditsTellCardSaid : Prop := Claim7.holds Tryd.pinned (.plain (OpenSpec.ofChange editsTellSpec)) editsTellCard

/-- THE TIED CARD OF 'boltholelaw06.EditsBack'. -/
def editsBackCard : Claim7 := { stood := { row := editsBackRow, standIns := [], harness := (true, "747263fe0736a51fd4b2e8928c5540c49342ad3e56730dd34909926aeca0098d"), looks := false }, kinds := [], alts := [], laidByText := true, laidKinds := [.data, .pinned], laidTests := true, laidLooks := .later }
def EditsBackCardSaid : Prop := Claim7.holds Tryd.pinned (.plain (OpenSpec.ofChange editsBackSpec)) editsBackCard

/-- THE TIED CARD OF 'boltholelaw06.EditsParts'. -/
def editsPartsCard : Claim7 := { stood := { row := editsPartsRow, standIns := [], harness := (true, "747263fe0736a51fd4b2e8928c5540c49342ad3e56730dd34909926aeca0098d"), looks := false }, kinds := [], alts := [], laidByText := true, laidKinds := [.data, .pinned], laidTests := true, laidLooks := .later }
def EditsPartsCardSaid : Prop := Claim7.holds Tryd.pinned (.plain (OpenSpec.ofChange editsPartsSpec)) editsPartsCard

/-- THE TIED CARD OF 'boltholelaw06.EditsLong'. -/
def editsLongCard : Claim7 := { stood := { row := editsLongRow, standIns := [], harness := (true, "747263fe0736a51fd4b2e8928c5540c49342ad3e56730dd34909926aeca0098d"), looks := false }, kinds := [], alts := [], laidByText := true, laidKinds := [.data, .pinned], laidTests := true, laidLooks := .later }
def EditsLongCardSaid : Prop := Claim7.holds Tryd.pinned (.plain (OpenSpec.ofChange editsLongSpec)) editsLongCard

/-- THE SECOND FORM's CARD OF 'boltholelaw05.LinesTell'. -/
def linesTellUptoCard : Claim7 := { stood := { row := linesTellUptoRow, standIns := [], harness := (true, "747263fe0736a51fd4b2e8928c5540c49342ad3e56730dd34909926aeca0098d"), looks := false }, kinds := [], alts := [], laidByText := true, laidKinds := [.data, .pinned], laidTests := true, laidLooks := .later }
def LinesTellUptoCardSaid : Prop := Claim7.holds Tryd.pinned (.plain (OpenSpec.upto linesTellSpec)) linesTellUptoCard

/-- THE SECOND FORM's CARD OF 'boltholelaw05.LinesBack'. -/
def linesBackUptoCard : Claim7 := { stood := { row := linesBackUptoRow, standIns := [], harness := (true, "747263fe0736a51fd4b2e8928c5540c49342ad3e56730dd34909926aeca0098d"), looks := false }, kinds := [], alts := [], laidByText := true, laidKinds := [.data, .pinned], laidTests := true, laidLooks := .later }
def LinesBackUptoCardSaid : Prop := Claim7.holds Tryd.pinned (.plain (OpenSpec.upto linesBackSpec)) linesBackUptoCard

/-- THE SECOND FORM's CARD OF 'boltholelaw05.LinesJoin'. -/
def linesJoinUptoCard : Claim7 := { stood := { row := linesJoinUptoRow, standIns := [], harness := (true, "747263fe0736a51fd4b2e8928c5540c49342ad3e56730dd34909926aeca0098d"), looks := false }, kinds := [], alts := [], laidByText := true, laidKinds := [.data, .pinned], laidTests := true, laidLooks := .later }
def LinesJoinUptoCardSaid : Prop := Claim7.holds Tryd.pinned (.plain (OpenSpec.upto linesJoinSpec)) linesJoinUptoCard

/-- THE SECOND FORM's CARD OF 'boltholelaw05.LinesNil'. -/
def linesNilUptoCard : Claim7 := { stood := { row := linesNilUptoRow, standIns := [], harness := (true, "747263fe0736a51fd4b2e8928c5540c49342ad3e56730dd34909926aeca0098d"), looks := false }, kinds := [], alts := [], laidByText := true, laidKinds := [.data, .pinned], laidTests := true, laidLooks := .later }
def LinesNilUptoCardSaid : Prop := Claim7.holds Tryd.pinned (.plain (OpenSpec.upto linesNilSpec)) linesNilUptoCard

/-- THE SECOND FORM's CARD OF 'boltholelaw06.EditsApply'. -/
def editsApplyUptoCard : Claim7 := { stood := { row := editsApplyUptoRow, standIns := [], harness := (true, "747263fe0736a51fd4b2e8928c5540c49342ad3e56730dd34909926aeca0098d"), looks := false }, kinds := [], alts := [], laidByText := true, laidKinds := [.data, .pinned], laidTests := true, laidLooks := .later }
def EditsApplyUptoCardSaid : Prop := Claim7.holds Tryd.pinned (.plain (OpenSpec.upto editsApplySpec)) editsApplyUptoCard

/-- THE SECOND FORM's CARD OF 'boltholelaw06.EditsTell'. -/
def editsTellUptoCard : Claim7 := { stood := { row := editsTellUptoRow, standIns := [], harness := (true, "747263fe0736a51fd4b2e8928c5540c49342ad3e56730dd34909926aeca0098d"), looks := false }, kinds := [], alts := [], laidByText := true, laidKinds := [.data, .pinned], laidTests := true, laidLooks := .later }
def EditsTellUptoCardSaid : Prop := Claim7.holds Tryd.pinned (.plain (OpenSpec.upto editsTellSpec)) editsTellUptoCard

/-- THE SECOND FORM's CARD OF 'boltholelaw06.EditsBack'. -/
def editsBackUptoCard : Claim7 := { stood := { row := editsBackUptoRow, standIns := [], harness := (true, "747263fe0736a51fd4b2e8928c5540c49342ad3e56730dd34909926aeca0098d"), looks := false }, kinds := [], alts := [], laidByText := true, laidKinds := [.data, .pinned], laidTests := true, laidLooks := .later }
def EditsBackUptoCardSaid : Prop := Claim7.holds Tryd.pinned (.plain (OpenSpec.upto editsBackSpec)) editsBackUptoCard

/-- THE SECOND FORM's CARD OF 'boltholelaw06.EditsParts'. -/
def editsPartsUptoCard : Claim7 := { stood := { row := editsPartsUptoRow, standIns := [], harness := (true, "747263fe0736a51fd4b2e8928c5540c49342ad3e56730dd34909926aeca0098d"), looks := false }, kinds := [], alts := [], laidByText := true, laidKinds := [.data, .pinned], laidTests := true, laidLooks := .later }
def EditsPartsUptoCardSaid : Prop := Claim7.holds Tryd.pinned (.plain (OpenSpec.upto editsPartsSpec)) editsPartsUptoCard

/-- THE SECOND FORM's CARD OF 'boltholelaw06.EditsLong'. -/
def editsLongUptoCard : Claim7 := { stood := { row := editsLongUptoRow, standIns := [], harness := (true, "747263fe0736a51fd4b2e8928c5540c49342ad3e56730dd34909926aeca0098d"), looks := false }, kinds := [], alts := [], laidByText := true, laidKinds := [.data, .pinned], laidTests := true, laidLooks := .later }
def EditsLongUptoCardSaid : Prop := Claim7.holds Tryd.pinned (.plain (OpenSpec.upto editsLongSpec)) editsLongUptoCard
end Rows
end Go.Proofs.YtadkjeefiacdbaaDoor
