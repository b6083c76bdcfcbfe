/-
  DERIVED. GIVEN WITH THE SEED: THE CARDS: each row of YtodhmkgfeliclaaDoorRows.lean that lists a variable, with what it lists TIED to the program's text (the seventh form; the later family's looks); each row that meets fmt, with fmt's text TOLD by the authors' own Lean function (tested against real Go, not proved from fmt's source: count such statements apart). THE CARD IS WHAT COUNTS. Prove the row's statement (the work); the ties are given (YtodhmkgfeliclaaDoorTie.lean); close each card by the builder's one call (the guide's Derived/Test/ToyasCard.lean, 'card_holds'). Laid BY PROGRAM, IN A SANDBOX (cutbox-door.mjs). By AI agents, Wed Nov 11 2026. No macro, syntax, notation, axiom, sorry.
-/
import Derived.Test.YtodhmkgfeliclaaDoorRows
import GoSem.ClaimSeven
namespace Go.Proofs.YtodhmkgfeliclaaDoor
namespace Rows

/-- THE TIED CARD OF 'boltholelaw01.UtfTells'. -/
def utfTellsCard : Claim7 := { stood := { row := utfTellsRow, standIns := [], harness := (true, "b6aab949d82bfc0dad6d76322dd22d3354d1a86c292722d16b9af8c4bf773847"), looks := false }, kinds := [], alts := [], laidByText := true, laidKinds := [.data, .pinned], laidTests := true, laidLooks := .later }
def UtfTellsCardSaid : Prop := Claim7.holds Tryd.pinned (.plain (OpenSpec.ofChange utfTellsSpec)) utfTellsCard

/-- THE TIED CARD OF 'boltholelaw01.UtfUnits'. -/
def utfUnitsCard : Claim7 := { stood := { row := utfUnitsRow, standIns := [], harness := (true, "b6aab949d82bfc0dad6d76322dd22d3354d1a86c292722d16b9af8c4bf773847"), looks := false }, kinds := [], alts := [], laidByText := true, laidKinds := [.data, .pinned], laidTests := true, laidLooks := .later }
def UtfUnitsCardSaid : Prop := Claim7.holds Tryd.pinned (.plain (OpenSpec.ofChange utfUnitsSpec)) utfUnitsCard

/-- THE TIED CARD OF 'boltholelaw01.UtfBack'. -/
def utfBackCard : Claim7 := { stood := { row := utfBackRow, standIns := [], harness := (true, "b6aab949d82bfc0dad6d76322dd22d3354d1a86c292722d16b9af8c4bf773847"), looks := false }, kinds := [], alts := [], laidByText := true, laidKinds := [.data, .pinned], laidTests := true, laidLooks := .later }
def UtfBackCardSaid : Prop := Claim7.holds Tryd.pinned (.plain (OpenSpec.ofChange utfBackSpec)) utfBackCard

/-- THE TIED CARD OF 'boltholelaw01.UtfJoins'. -/
def utfJoinsCard : Claim7 := { stood := { row := utfJoinsRow, standIns := [], harness := (true, "b6aab949d82bfc0dad6d76322dd22d3354d1a86c292722d16b9af8c4bf773847"), looks := false }, kinds := [], alts := [], laidByText := true, laidKinds := [.data, .pinned], laidTests := true, laidLooks := .later }
def UtfJoinsCardSaid : Prop := Claim7.holds Tryd.pinned (.plain (OpenSpec.ofChange utfJoinsSpec)) utfJoinsCard

/-- THE SECOND FORM's CARD OF 'boltholelaw01.UtfTells'. -/
def utfTellsUptoCard : Claim7 := { stood := { row := utfTellsUptoRow, standIns := [], harness := (true, "b6aab949d82bfc0dad6d76322dd22d3354d1a86c292722d16b9af8c4bf773847"), looks := false }, kinds := [], alts := [], laidByText := true, laidKinds := [.data, .pinned], laidTests := true, laidLooks := .later }
def UtfTellsUptoCardSaid : Prop := Claim7.holds Tryd.pinned (.plain (OpenSpec.upto utfTellsSpec)) utfTellsUptoCard

/-- THE SECOND FORM's CARD OF 'boltholelaw01.UtfUnits'. -/
def utfUnitsUptoCard : Claim7 := { stood := { row := utfUnitsUptoRow, standIns := [], harness := (true, "b6aab949d82bfc0dad6d76322dd22d3354d1a86c292722d16b9af8c4bf773847"), looks := false }, kinds := [], alts := [], laidByText := true, laidKinds := [.data, .pinned], laidTests := true, laidLooks := .later }
def UtfUnitsUptoCardSaid : Prop := Claim7.holds Tryd.pinned (.plain (OpenSpec.upto utfUnitsSpec)) utfUnitsUptoCard

/-- THE SECOND FORM's CARD OF 'boltholelaw01.UtfBack'. -/
def utfBackUptoCard : Claim7 := { stood := { row := utfBackUptoRow, standIns := [], harness := (true, "b6aab949d82bfc0dad6d76322dd22d3354d1a86c292722d16b9af8c4bf773847"), looks := false }, kinds := [], alts := [], laidByText := true, laidKinds := [.data, .pinned], laidTests := true, laidLooks := .later }
def UtfBackUptoCardSaid : Prop := Claim7.holds Tryd.pinned (.plain (OpenSpec.upto utfBackSpec)) utfBackUptoCard

/-- THE SECOND FORM's CARD OF 'boltholelaw01.UtfJoins'. -/
def utfJoinsUptoCard : Claim7 := { stood := { row := utfJoinsUptoRow, standIns := [], harness := (true, "b6aab949d82bfc0dad6d76322dd22d3354d1a86c292722d16b9af8c4bf773847"), looks := false }, kinds := [], alts := [], laidByText := true, laidKinds := [.data, .pinned], laidTests := true, laidLooks := .later }
def UtfJoinsUptoCardSaid : Prop := Claim7.holds Tryd.pinned (.plain (OpenSpec.upto utfJoinsSpec)) utfJoinsUptoCard
end Rows
end Go.Proofs.YtodhmkgfeliclaaDoor
