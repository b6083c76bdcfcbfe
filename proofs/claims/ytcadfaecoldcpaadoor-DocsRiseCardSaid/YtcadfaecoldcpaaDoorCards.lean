/-
  DERIVED. GIVEN WITH THE SEED: THE CARDS: each row of YtcadfaecoldcpaaDoorRows.lean that lists a variable, with what it lists TIED to the program's text (the seventh form; the later family's looks); each row that meets fmt, with fmt's text TOLD by the authors' own Lean function (tested against real Go, not proved from fmt's source: count such statements apart). THE CARD IS WHAT COUNTS. Prove the row's statement (the work); the ties are given (YtcadfaecoldcpaaDoorTie.lean); close each card by the builder's one call (the guide's Derived/Test/ToyasCard.lean, 'card_holds'). Laid BY PROGRAM, IN A SANDBOX (cutbox-door.mjs). By AI agents, Wed Nov 11 2026. No macro, syntax, notation, axiom, sorry.
-/
import Derived.Test.YtcadfaecoldcpaaDoorRows
import GoSem.ClaimSeven
namespace Go.Proofs.YtcadfaecoldcpaaDoor
namespace Rows

/-- THE TIED CARD OF 'boltholelaw07.DocsRefused'. -/
def docsRefusedCard : Claim7 := { stood := { row := docsRefusedRow, standIns := [], harness := (true, "2d243771a4077af626866108bf39c3ee8ca4f657ba012634da1eb569dda87ff8"), looks := false }, kinds := [], alts := [], laidByText := true, laidKinds := [.data, .pinned], laidTests := true, laidLooks := .later }
def DocsRefusedCardSaid : Prop := Claim7.holds Tryd.pinned (.plain (OpenSpec.ofChange docsRefusedSpec)) docsRefusedCard

/-- THE TIED CARD OF 'boltholelaw07.DocsPlay'. -/
def docsPlayCard : Claim7 := { stood := { row := docsPlayRow, standIns := [], harness := (true, "2d243771a4077af626866108bf39c3ee8ca4f657ba012634da1eb569dda87ff8"), looks := false }, kinds := [], alts := [], laidByText := true, laidKinds := [.data, .pinned], laidTests := true, laidLooks := .later }
def DocsPlayCardSaid : Prop := Claim7.holds Tryd.pinned (.plain (OpenSpec.ofChange docsPlaySpec)) docsPlayCard

/-- THE TIED CARD OF 'boltholelaw07.DocsRise'. -/
def docsRiseCard : Claim7 := { stood := { row := docsRiseRow, standIns := [], harness := (true, "2d243771a4077af626866108bf39c3ee8ca4f657ba012634da1eb569dda87ff8"), looks := false }, kinds := [], alts := [], laidByText := true, laidKinds := [.data, .pinned], laidTests := true, laidLooks := .later }
def DocsRiseCardSaid : Prop := Claim7.holds Tryd.pinned (.plain (OpenSpec.ofChange docsRiseSpec)) docsRiseCard

/-- THE TIED CARD OF 'boltholelaw07.DocsLong'. -/
def docsLongCard : Claim7 := { stood := { row := docsLongRow, standIns := [], harness := (true, "2d243771a4077af626866108bf39c3ee8ca4f657ba012634da1eb569dda87ff8"), looks := false }, kinds := [], alts := [], laidByText := true, laidKinds := [.data, .pinned], laidTests := true, laidLooks := .later }
def DocsLongCardSaid : Prop := Claim7.holds Tryd.pinned (.plain (OpenSpec.ofChange docsLongSpec)) docsLongCard

/-- THE SECOND FORM's CARD OF 'boltholelaw07.DocsRefused'. -/
def docsRefusedUptoCard : Claim7 := { stood := { row := docsRefusedUptoRow, standIns := [], harness := (true, "2d243771a4077af626866108bf39c3ee8ca4f657ba012634da1eb569dda87ff8"), looks := false }, kinds := [], alts := [], laidByText := true, laidKinds := [.data, .pinned], laidTests := true, laidLooks := .later }
def DocsRefusedUptoCardSaid : Prop := Claim7.holds Tryd.pinned (.plain (OpenSpec.upto docsRefusedSpec)) docsRefusedUptoCard

/-- THE SECOND FORM's CARD OF 'boltholelaw07.DocsPlay'. -/
def docsPlayUptoCard : Claim7 := { stood := { row := docsPlayUptoRow, standIns := [], harness := (true, "2d243771a4077af626866108bf39c3ee8ca4f657ba012634da1eb569dda87ff8"), looks := false }, kinds := [], alts := [], laidByText := true, laidKinds := [.data, .pinned], laidTests := true, laidLooks := .later }
def DocsPlayUptoCardSaid : Prop := Claim7.holds Tryd.pinned (.plain (OpenSpec.upto docsPlaySpec)) docsPlayUptoCard

/-- THE SECOND FORM's CARD OF 'boltholelaw07.DocsRise'. -/
def docsRiseUptoCard : Claim7 := { stood := { row := docsRiseUptoRow, standIns := [], harness := (true, "2d243771a4077af626866108bf39c3ee8ca4f657ba012634da1eb569dda87ff8"), looks := false }, kinds := [], alts := [], laidByText := true, laidKinds := [.data, .pinned], laidTests := true, laidLooks := .later }
def DocsRiseUptoCardSaid : Prop := Claim7.holds Tryd.pinned (.plain (OpenSpec.upto docsRiseSpec)) docsRiseUptoCard

/-- THE SECOND FORM's CARD OF 'boltholelaw07.DocsLong'. -/
def docsLongUptoCard : Claim7 := { stood := { row := docsLongUptoRow, standIns := [], harness := (true, "2d243771a4077af626866108bf39c3ee8ca4f657ba012634da1eb569dda87ff8"), looks := false }, kinds := [], alts := [], laidByText := true, laidKinds := [.data, .pinned], laidTests := true, laidLooks := .later }
def DocsLongUptoCardSaid : Prop := Claim7.holds Tryd.pinned (.plain (OpenSpec.upto docsLongSpec)) docsLongUptoCard
end Rows
end Go.Proofs.YtcadfaecoldcpaaDoor
