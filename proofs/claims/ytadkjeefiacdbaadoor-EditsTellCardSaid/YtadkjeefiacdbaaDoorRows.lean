/-
  NARROWER THAN 'FOR EVERY INPUT', by the rows' own cells (each row's printed sentence says how): LinesTell: laid · LinesBack: laid · LinesJoin: laid · LinesNil: laid · EditsApply: laid · EditsTell: laid · EditsBack: laid · EditsParts: laid · EditsLong: laid.
  DERIVED. THE GIVEN ROWS OF THIS SEAT. 9 by the template 'for every input the law returns true; each argument reads behind the call as it read before'; 0 by the template 'total and deterministic' (their statements: YtadkjeefiacdbaaDoorTotals.lean).
  GIVEN WITH THE SEED: the statements are not yours to turn. If you find one false, say at which input.
  Laid BY PROGRAM, IN A SANDBOX (cutbox-rows.mjs): the forced cells as the released guide's own fill.sh prints them over the translation ac558f069e537308… (all of the seat's roots in one cut). By AI agents, Wed Nov 11 2026. No macro, syntax, notation, axiom, sorry.
-/
import Derived.Test.YtadkjeefiacdbaaDoorChecked
import GoSem.PinnedTables
import GoSem.Claim
import GoSem.ClaimJoined
import GoSem.ClaimMapViews
import Derived.JoinedTies
import Derived.KernelRfl
namespace Go.Proofs.YtadkjeefiacdbaaDoor
/- THE CELL 'sum', in the pinned program and in every row, IS THE sha256 OF THE DUMP (.gsa) THAT YtadkjeefiacdbaaDoorProg.lean LOADS. Nothing in Lean hashes anything: it is a label: what it is worth is what the hold of that sum in a sandbox is worth. -/
noncomputable def Tryd.pinned : Pinned := { name := "ytadkjeefiacdbaadoor", sum := "ac558f069e537308552a3886fb827d0f1eeff8259512fee727bfc9ea3dc0e06c", checked := Tryd.checked }
namespace Rows
def none {H : Type} : Left H := { results := [], args := [] }

/- WHAT THE LISTED PACKAGE-LEVEL VARIABLES READ AS WHEN THE CALL BEGINS. Each datum BY PROGRAM (the guide's laid-datum.mjs) off the statement by which the dump's own 'gosem.cut.vars' lays the variable. In a bare row this is a premise. The card (YtadkjeefiacdbaaDoorCards.lean) ties it to the program's text. -/
def laid_unicode_utf8_acceptRanges {H : Type} : DataW H := .agg [.agg [.lit (.int .u8 128), .lit (.int .u8 191)], .agg [.lit (.int .u8 160), .lit (.int .u8 191)], .agg [.lit (.int .u8 128), .lit (.int .u8 159)], .agg [.lit (.int .u8 144), .lit (.int .u8 191)], .agg [.lit (.int .u8 128), .lit (.int .u8 143)], .agg [.lit (.int .u8 0), .lit (.int .u8 0)], .agg [.lit (.int .u8 0), .lit (.int .u8 0)], .agg [.lit (.int .u8 0), .lit (.int .u8 0)], .agg [.lit (.int .u8 0), .lit (.int .u8 0)], .agg [.lit (.int .u8 0), .lit (.int .u8 0)], .agg [.lit (.int .u8 0), .lit (.int .u8 0)], .agg [.lit (.int .u8 0), .lit (.int .u8 0)], .agg [.lit (.int .u8 0), .lit (.int .u8 0)], .agg [.lit (.int .u8 0), .lit (.int .u8 0)], .agg [.lit (.int .u8 0), .lit (.int .u8 0)], .agg [.lit (.int .u8 0), .lit (.int .u8 0)]]
/-- One of Go's own tables, pinned by name: the form's constant. -/
def laid_unicode_utf8_first : DataW Unit := Go.Pinned.utf8First

/-- 'boltholelaw05.LinesTell': WHATEVER THE INPUT: true; the input reads as it did. -/
def linesTellSpec : ChangeSpec := { name := "linesTell", fn := fun _ => fun
  | [d1, d2, d3] => { results := [.lit (.bool true)], args := [d1, d2, d3] }
  | _ => none }
def linesTellRow : OpenClaim := { program := "ytadkjeefiacdbaadoor", sum := "ac558f069e537308552a3886fb827d0f1eeff8259512fee727bfc9ea3dc0e06c", func := "bolthole/boltholelaw05.LinesTell", spec := "linesTell", inPlace := ["internal/bytealg.IndexByteString", "internal/bytealg.IndexString"], named := ["unicode/utf8.first", "unicode/utf8.acceptRanges", "internal/bytealg.MaxLen"], apart := false, laid := [("unicode/utf8.acceptRanges", laid_unicode_utf8_acceptRanges), ("unicode/utf8.first", laid_unicode_utf8_first)] }
def LinesTellSaid : Prop := linesTellRow.holds Tryd.pinned (OpenSpec.ofChange linesTellSpec)

/-- ITS FALSE NEIGHBOUR: 'it returns false'. Refute it at one input. -/
def linesTellWrong : ChangeSpec := { name := "linesTell", fn := fun _ => fun
  | [d1, d2, d3] => { results := [.lit (.bool false)], args := [d1, d2, d3] }
  | _ => none }
def LinesTellWrongFalsely : Prop := linesTellRow.holds Tryd.pinned (OpenSpec.ofChange linesTellWrong)

/-- 'boltholelaw05.LinesBack': WHATEVER THE INPUT: true; the input reads as it did. -/
def linesBackSpec : ChangeSpec := { name := "linesBack", fn := fun _ => fun
  | [d1, d2] => { results := [.lit (.bool true)], args := [d1, d2] }
  | _ => none }
def linesBackRow : OpenClaim := { program := "ytadkjeefiacdbaadoor", sum := "ac558f069e537308552a3886fb827d0f1eeff8259512fee727bfc9ea3dc0e06c", func := "bolthole/boltholelaw05.LinesBack", spec := "linesBack", inPlace := ["internal/bytealg.IndexByteString", "internal/bytealg.IndexString"], named := ["unicode/utf8.first", "unicode/utf8.acceptRanges", "internal/bytealg.MaxLen"], apart := false, laid := [("unicode/utf8.acceptRanges", laid_unicode_utf8_acceptRanges), ("unicode/utf8.first", laid_unicode_utf8_first)] }
def LinesBackSaid : Prop := linesBackRow.holds Tryd.pinned (OpenSpec.ofChange linesBackSpec)

/-- ITS FALSE NEIGHBOUR: 'it returns false'. Refute it at one input. -/
def linesBackWrong : ChangeSpec := { name := "linesBack", fn := fun _ => fun
  | [d1, d2] => { results := [.lit (.bool false)], args := [d1, d2] }
  | _ => none }
def LinesBackWrongFalsely : Prop := linesBackRow.holds Tryd.pinned (OpenSpec.ofChange linesBackWrong)

/-- 'boltholelaw05.LinesJoin': WHATEVER THE INPUT: true; the input reads as it did. -/
def linesJoinSpec : ChangeSpec := { name := "linesJoin", fn := fun _ => fun
  | [d1, d2, d3] => { results := [.lit (.bool true)], args := [d1, d2, d3] }
  | _ => none }
def linesJoinRow : OpenClaim := { program := "ytadkjeefiacdbaadoor", sum := "ac558f069e537308552a3886fb827d0f1eeff8259512fee727bfc9ea3dc0e06c", func := "bolthole/boltholelaw05.LinesJoin", spec := "linesJoin", inPlace := ["internal/bytealg.IndexByteString", "internal/bytealg.IndexString"], named := ["unicode/utf8.first", "unicode/utf8.acceptRanges", "internal/bytealg.MaxLen"], apart := false, laid := [("unicode/utf8.acceptRanges", laid_unicode_utf8_acceptRanges), ("unicode/utf8.first", laid_unicode_utf8_first)] }
def LinesJoinSaid : Prop := linesJoinRow.holds Tryd.pinned (OpenSpec.ofChange linesJoinSpec)

/-- ITS FALSE NEIGHBOUR: 'it returns false'. Refute it at one input. -/
def linesJoinWrong : ChangeSpec := { name := "linesJoin", fn := fun _ => fun
  | [d1, d2, d3] => { results := [.lit (.bool false)], args := [d1, d2, d3] }
  | _ => none }
def LinesJoinWrongFalsely : Prop := linesJoinRow.holds Tryd.pinned (OpenSpec.ofChange linesJoinWrong)

/-- 'boltholelaw05.LinesNil': WHATEVER THE INPUT: true; the input reads as it did. -/
def linesNilSpec : ChangeSpec := { name := "linesNil", fn := fun _ => fun
  | [d1, d2] => { results := [.lit (.bool true)], args := [d1, d2] }
  | _ => none }
def linesNilRow : OpenClaim := { program := "ytadkjeefiacdbaadoor", sum := "ac558f069e537308552a3886fb827d0f1eeff8259512fee727bfc9ea3dc0e06c", func := "bolthole/boltholelaw05.LinesNil", spec := "linesNil", inPlace := ["internal/bytealg.IndexByteString", "internal/bytealg.IndexString"], named := ["internal/bytealg.MaxLen", "unicode/utf8.first", "unicode/utf8.acceptRanges"], apart := false, laid := [("unicode/utf8.acceptRanges", laid_unicode_utf8_acceptRanges), ("unicode/utf8.first", laid_unicode_utf8_first)] }
def LinesNilSaid : Prop := linesNilRow.holds Tryd.pinned (OpenSpec.ofChange linesNilSpec)

/-- ITS FALSE NEIGHBOUR: 'it returns false'. Refute it at one input. -/
def linesNilWrong : ChangeSpec := { name := "linesNil", fn := fun _ => fun
  | [d1, d2] => { results := [.lit (.bool false)], args := [d1, d2] }
  | _ => none }
def LinesNilWrongFalsely : Prop := linesNilRow.holds Tryd.pinned (OpenSpec.ofChange linesNilWrong)

/-- 'boltholelaw06.EditsApply': WHATEVER THE INPUT: true; the input reads as it did. -/
def editsApplySpec : ChangeSpec := { name := "editsApply", fn := fun _ => fun
  | [d1, d2] => { results := [.lit (.bool true)], args := [d1, d2] }
  | _ => none }
def editsApplyRow : OpenClaim := { program := "ytadkjeefiacdbaadoor", sum := "ac558f069e537308552a3886fb827d0f1eeff8259512fee727bfc9ea3dc0e06c", func := "bolthole/boltholelaw06.EditsApply", spec := "editsApply", inPlace := ["internal/bytealg.IndexByteString", "internal/bytealg.IndexString"], unfollowed := true, recurses := true, named := ["unicode/utf8.first", "unicode/utf8.acceptRanges", "internal/bytealg.MaxLen"], apart := false, laid := [("unicode/utf8.acceptRanges", laid_unicode_utf8_acceptRanges), ("unicode/utf8.first", laid_unicode_utf8_first)] }
def EditsApplySaid : Prop := editsApplyRow.holds Tryd.pinned (OpenSpec.ofChange editsApplySpec)

/-- ITS FALSE NEIGHBOUR: 'it returns false'. Refute it at one input. -/
def editsApplyWrong : ChangeSpec := { name := "editsApply", fn := fun _ => fun
  | [d1, d2] => { results := [.lit (.bool false)], args := [d1, d2] }
  | _ => none }
def EditsApplyWrongFalsely : Prop := editsApplyRow.holds Tryd.pinned (OpenSpec.ofChange editsApplyWrong)

/-- 'boltholelaw06.EditsTell': WHATEVER THE INPUT: true; the input reads as it did. -/
def editsTellSpec : ChangeSpec := { name := "editsTell", fn := fun _ => fun
  | [d1, d2, d3] => { results := [.lit (.bool true)], args := [d1, d2, d3] }
  | _ => none }
def editsTellRow : OpenClaim := { program := "ytadkjeefiacdbaadoor", sum := "ac558f069e537308552a3886fb827d0f1eeff8259512fee727bfc9ea3dc0e06c", func := "bolthole/boltholelaw06.EditsTell", spec := "editsTell", inPlace := ["internal/bytealg.IndexByteString", "internal/bytealg.IndexString"], unfollowed := true, recurses := true, named := ["unicode/utf8.first", "unicode/utf8.acceptRanges", "internal/bytealg.MaxLen"], apart := false, laid := [("unicode/utf8.acceptRanges", laid_unicode_utf8_acceptRanges), ("unicode/utf8.first", laid_unicode_utf8_first)] }
def EditsTellSaid : Prop := editsTellRow.holds Tryd.pinned (OpenSpec.ofChange editsTellSpec)

/-- ITS FALSE NEIGHBOUR: 'it returns false'. Refute it at one input. -/
def editsTellWrong : ChangeSpec := { name := "editsTell", fn := fun _ => fun
  | [d1, d2, d3] => { results := [.lit (.bool false)], args := [d1, d2, d3] }
  | _ => none }
def EditsTellWrongFalsely : Prop := editsTellRow.holds Tryd.pinned (OpenSpec.ofChange editsTellWrong)

/-- 'boltholelaw06.EditsBack': WHATEVER THE INPUT: true; the input reads as it did. -/
def editsBackSpec : ChangeSpec := { name := "editsBack", fn := fun _ => fun
  | [d1, d2] => { results := [.lit (.bool true)], args := [d1, d2] }
  | _ => none }
def editsBackRow : OpenClaim := { program := "ytadkjeefiacdbaadoor", sum := "ac558f069e537308552a3886fb827d0f1eeff8259512fee727bfc9ea3dc0e06c", func := "bolthole/boltholelaw06.EditsBack", spec := "editsBack", inPlace := ["internal/bytealg.IndexByteString", "internal/bytealg.IndexString"], unfollowed := true, recurses := true, named := ["unicode/utf8.first", "unicode/utf8.acceptRanges", "internal/bytealg.MaxLen"], apart := false, laid := [("unicode/utf8.acceptRanges", laid_unicode_utf8_acceptRanges), ("unicode/utf8.first", laid_unicode_utf8_first)] }
def EditsBackSaid : Prop := editsBackRow.holds Tryd.pinned (OpenSpec.ofChange editsBackSpec)

/-- ITS FALSE NEIGHBOUR: 'it returns false'. Refute it at one input. -/
def editsBackWrong : ChangeSpec := { name := "editsBack", fn := fun _ => fun
  | [d1, d2] => { results := [.lit (.bool false)], args := [d1, d2] }
  | _ => none }
def EditsBackWrongFalsely : Prop := editsBackRow.holds Tryd.pinned (OpenSpec.ofChange editsBackWrong)

/-- 'boltholelaw06.EditsParts': WHATEVER THE INPUT: true; the input reads as it did. -/
def editsPartsSpec : ChangeSpec := { name := "editsParts", fn := fun _ => fun
  | [d1, d2, d3] => { results := [.lit (.bool true)], args := [d1, d2, d3] }
  | _ => none }
def editsPartsRow : OpenClaim := { program := "ytadkjeefiacdbaadoor", sum := "ac558f069e537308552a3886fb827d0f1eeff8259512fee727bfc9ea3dc0e06c", func := "bolthole/boltholelaw06.EditsParts", spec := "editsParts", inPlace := ["internal/bytealg.IndexByteString", "internal/bytealg.IndexString"], unfollowed := true, recurses := true, named := ["unicode/utf8.first", "unicode/utf8.acceptRanges", "internal/bytealg.MaxLen"], apart := false, laid := [("unicode/utf8.acceptRanges", laid_unicode_utf8_acceptRanges), ("unicode/utf8.first", laid_unicode_utf8_first)] }
def EditsPartsSaid : Prop := editsPartsRow.holds Tryd.pinned (OpenSpec.ofChange editsPartsSpec)

/-- ITS FALSE NEIGHBOUR: 'it returns false'. Refute it at one input. -/
def editsPartsWrong : ChangeSpec := { name := "editsParts", fn := fun _ => fun
  | [d1, d2, d3] => { results := [.lit (.bool false)], args := [d1, d2, d3] }
  | _ => none }
def EditsPartsWrongFalsely : Prop := editsPartsRow.holds Tryd.pinned (OpenSpec.ofChange editsPartsWrong)

/-- 'boltholelaw06.EditsLong': WHATEVER THE INPUT: true; the input reads as it did. -/
def editsLongSpec : ChangeSpec := { name := "editsLong", fn := fun _ => fun
  | [d] => { results := [.lit (.bool true)], args := [d] }
  | _ => none }
def editsLongRow : OpenClaim := { program := "ytadkjeefiacdbaadoor", sum := "ac558f069e537308552a3886fb827d0f1eeff8259512fee727bfc9ea3dc0e06c", func := "bolthole/boltholelaw06.EditsLong", spec := "editsLong", inPlace := ["internal/bytealg.IndexByteString", "internal/bytealg.IndexString"], unfollowed := true, recurses := true, named := ["unicode/utf8.first", "unicode/utf8.acceptRanges", "internal/bytealg.MaxLen"], apart := false, laid := [("unicode/utf8.acceptRanges", laid_unicode_utf8_acceptRanges), ("unicode/utf8.first", laid_unicode_utf8_first)] }
def EditsLongSaid : Prop := editsLongRow.holds Tryd.pinned (OpenSpec.ofChange editsLongSpec)

/-- ITS FALSE NEIGHBOUR: 'it returns false'. Refute it at one input. -/
def editsLongWrong : ChangeSpec := { name := "editsLong", fn := fun _ => fun
  | [d] => { results := [.lit (.bool false)], args := [d] }
  | _ => none }
def EditsLongWrongFalsely : Prop := editsLongRow.holds Tryd.pinned (OpenSpec.ofChange editsLongWrong)

/- THE SECOND FORM. 'bulk': how many values and letters a reading holds, each counted each time it is reached (what is shared counts as often as it is met; a slice's spare places count too). A statement '..UptoSaid' is the law's where the arguments, and the package variables that the reading takes, are together of bulk at most 1048576: NARROWER than '..Said'. Prove '..Said' where nothing that the law and all that it calls make is longer than what came in: it says more and counts as full. Else prove '..UptoSaid'. A law counts once. -/
mutual
def uptoBulk {H : Type} : DataW H → Nat
  | .lit (.string bytes) => bytes.length + 1
  | .lit _ => 1
  | .nil => 1
  | .ptr d => uptoBulk d + 1
  | .slice elems spare => uptoBulkAll elems + uptoBulkAll spare + 1
  | .agg parts => uptoBulkAll parts + 1
  | .iface _ d => uptoBulk d + 1
  | .map entries => uptoBulkEntries entries + 1
  | .held _ => 1
def uptoBulkAll {H : Type} : List (DataW H) → Nat
  | [] => 0
  | d :: r => uptoBulk d + uptoBulkAll r
def uptoBulkEntries {H : Type} : List (Lit × DataW H) → Nat
  | [] => 0
  | x :: r => uptoBulkEntry x + uptoBulkEntries r
def uptoBulkEntry {H : Type} : Lit × DataW H → Nat
  | (.string bytes, d) => bytes.length + uptoBulk d + 1
  | (_, d) => uptoBulk d + 1
 end
def uptoSmall : (H : Type) → List (DataW H) → Bool := fun _ ds => decide (uptoBulkAll ds ≤ 1048576)
def OpenSpec.upto (s : _root_.Go.ChangeSpec) : _root_.Go.OpenSpec := { _root_.Go.OpenSpec.ofChange s with cond := some uptoSmall }

/-- 'boltholelaw05.LinesTell', WHERE WHAT IT READS IS OF BULK AT MOST 1048576: true; the input reads as it did. -/
def linesTellUptoRow : OpenClaim := { program := "ytadkjeefiacdbaadoor", sum := "ac558f069e537308552a3886fb827d0f1eeff8259512fee727bfc9ea3dc0e06c", func := "bolthole/boltholelaw05.LinesTell", spec := "linesTell", inPlace := ["internal/bytealg.IndexByteString", "internal/bytealg.IndexString"], named := ["unicode/utf8.first", "unicode/utf8.acceptRanges", "internal/bytealg.MaxLen"], apart := false, laid := [("unicode/utf8.acceptRanges", laid_unicode_utf8_acceptRanges), ("unicode/utf8.first", laid_unicode_utf8_first)], narrowed := true }
def LinesTellUptoSaid : Prop := linesTellUptoRow.holds Tryd.pinned (OpenSpec.upto linesTellSpec)

/-- 'boltholelaw05.LinesBack', WHERE WHAT IT READS IS OF BULK AT MOST 1048576: true; the input reads as it did. -/
def linesBackUptoRow : OpenClaim := { program := "ytadkjeefiacdbaadoor", sum := "ac558f069e537308552a3886fb827d0f1eeff8259512fee727bfc9ea3dc0e06c", func := "bolthole/boltholelaw05.LinesBack", spec := "linesBack", inPlace := ["internal/bytealg.IndexByteString", "internal/bytealg.IndexString"], named := ["unicode/utf8.first", "unicode/utf8.acceptRanges", "internal/bytealg.MaxLen"], apart := false, laid := [("unicode/utf8.acceptRanges", laid_unicode_utf8_acceptRanges), ("unicode/utf8.first", laid_unicode_utf8_first)], narrowed := true }
def LinesBackUptoSaid : Prop := linesBackUptoRow.holds Tryd.pinned (OpenSpec.upto linesBackSpec)

/-- 'boltholelaw05.LinesJoin', WHERE WHAT IT READS IS OF BULK AT MOST 1048576: true; the input reads as it did. -/
def linesJoinUptoRow : OpenClaim := { program := "ytadkjeefiacdbaadoor", sum := "ac558f069e537308552a3886fb827d0f1eeff8259512fee727bfc9ea3dc0e06c", func := "bolthole/boltholelaw05.LinesJoin", spec := "linesJoin", inPlace := ["internal/bytealg.IndexByteString", "internal/bytealg.IndexString"], named := ["unicode/utf8.first", "unicode/utf8.acceptRanges", "internal/bytealg.MaxLen"], apart := false, laid := [("unicode/utf8.acceptRanges", laid_unicode_utf8_acceptRanges), ("unicode/utf8.first", laid_unicode_utf8_first)], narrowed := true }
def LinesJoinUptoSaid : Prop := linesJoinUptoRow.holds Tryd.pinned (OpenSpec.upto linesJoinSpec)

/-- 'boltholelaw05.LinesNil', WHERE WHAT IT READS IS OF BULK AT MOST 1048576: true; the input reads as it did. -/
def linesNilUptoRow : OpenClaim := { program := "ytadkjeefiacdbaadoor", sum := "ac558f069e537308552a3886fb827d0f1eeff8259512fee727bfc9ea3dc0e06c", func := "bolthole/boltholelaw05.LinesNil", spec := "linesNil", inPlace := ["internal/bytealg.IndexByteString", "internal/bytealg.IndexString"], named := ["internal/bytealg.MaxLen", "unicode/utf8.first", "unicode/utf8.acceptRanges"], apart := false, laid := [("unicode/utf8.acceptRanges", laid_unicode_utf8_acceptRanges), ("unicode/utf8.first", laid_unicode_utf8_first)], narrowed := true }
def LinesNilUptoSaid : Prop := linesNilUptoRow.holds Tryd.pinned (OpenSpec.upto linesNilSpec)

/-- 'boltholelaw06.EditsApply', WHERE WHAT IT READS IS OF BULK AT MOST 1048576: true; the input reads as it did. -/
def editsApplyUptoRow : OpenClaim := { program := "ytadkjeefiacdbaadoor", sum := "ac558f069e537308552a3886fb827d0f1eeff8259512fee727bfc9ea3dc0e06c", func := "bolthole/boltholelaw06.EditsApply", spec := "editsApply", inPlace := ["internal/bytealg.IndexByteString", "internal/bytealg.IndexString"], unfollowed := true, recurses := true, named := ["unicode/utf8.first", "unicode/utf8.acceptRanges", "internal/bytealg.MaxLen"], apart := false, laid := [("unicode/utf8.acceptRanges", laid_unicode_utf8_acceptRanges), ("unicode/utf8.first", laid_unicode_utf8_first)], narrowed := true }
def EditsApplyUptoSaid : Prop := editsApplyUptoRow.holds Tryd.pinned (OpenSpec.upto editsApplySpec)

/-- 'boltholelaw06.EditsTell', WHERE WHAT IT READS IS OF BULK AT MOST 1048576: true; the input reads as it did. -/
def editsTellUptoRow : OpenClaim := { program := "ytadkjeefiacdbaadoor", sum := "ac558f069e537308552a3886fb827d0f1eeff8259512fee727bfc9ea3dc0e06c", func := "bolthole/boltholelaw06.EditsTell", spec := "editsTell", inPlace := ["internal/bytealg.IndexByteString", "internal/bytealg.IndexString"], unfollowed := true, recurses := true, named := ["unicode/utf8.first", "unicode/utf8.acceptRanges", "internal/bytealg.MaxLen"], apart := false, laid := [("unicode/utf8.acceptRanges", laid_unicode_utf8_acceptRanges), ("unicode/utf8.first", laid_unicode_utf8_first)], narrowed := true }
def EditsTellUptoSaid : Prop := editsTellUptoRow.holds Tryd.pinned (OpenSpec.upto editsTellSpec)

/-- 'boltholelaw06.EditsBack', WHERE WHAT IT READS IS OF BULK AT MOST 1048576: true; the input reads as it did. -/
def editsBackUptoRow : OpenClaim := { program := "ytadkjeefiacdbaadoor", sum := "ac558f069e537308552a3886fb827d0f1eeff8259512fee727bfc9ea3dc0e06c", func := "bolthole/boltholelaw06.EditsBack", spec := "editsBack", inPlace := ["internal/bytealg.IndexByteString", "internal/bytealg.IndexString"], unfollowed := true, recurses := true, named := ["unicode/utf8.first", "unicode/utf8.acceptRanges", "internal/bytealg.MaxLen"], apart := false, laid := [("unicode/utf8.acceptRanges", laid_unicode_utf8_acceptRanges), ("unicode/utf8.first", laid_unicode_utf8_first)], narrowed := true }
def EditsBackUptoSaid : Prop := editsBackUptoRow.holds Tryd.pinned (OpenSpec.upto editsBackSpec)

/-- 'boltholelaw06.EditsParts', WHERE WHAT IT READS IS OF BULK AT MOST 1048576: true; the input reads as it did. -/
def editsPartsUptoRow : OpenClaim := { program := "ytadkjeefiacdbaadoor", sum := "ac558f069e537308552a3886fb827d0f1eeff8259512fee727bfc9ea3dc0e06c", func := "bolthole/boltholelaw06.EditsParts", spec := "editsParts", inPlace := ["internal/bytealg.IndexByteString", "internal/bytealg.IndexString"], unfollowed := true, recurses := true, named := ["unicode/utf8.first", "unicode/utf8.acceptRanges", "internal/bytealg.MaxLen"], apart := false, laid := [("unicode/utf8.acceptRanges", laid_unicode_utf8_acceptRanges), ("unicode/utf8.first", laid_unicode_utf8_first)], narrowed := true }
def EditsPartsUptoSaid : Prop := editsPartsUptoRow.holds Tryd.pinned (OpenSpec.upto editsPartsSpec)

/-- 'boltholelaw06.EditsLong', WHERE WHAT IT READS IS OF BULK AT MOST 1048576: true; the input reads as it did. -/
def editsLongUptoRow : OpenClaim := { program := "ytadkjeefiacdbaadoor", sum := "ac558f069e537308552a3886fb827d0f1eeff8259512fee727bfc9ea3dc0e06c", func := "bolthole/boltholelaw06.EditsLong", spec := "editsLong", inPlace := ["internal/bytealg.IndexByteString", "internal/bytealg.IndexString"], unfollowed := true, recurses := true, named := ["unicode/utf8.first", "unicode/utf8.acceptRanges", "internal/bytealg.MaxLen"], apart := false, laid := [("unicode/utf8.acceptRanges", laid_unicode_utf8_acceptRanges), ("unicode/utf8.first", laid_unicode_utf8_first)], narrowed := true }
def EditsLongUptoSaid : Prop := editsLongUptoRow.holds Tryd.pinned (OpenSpec.upto editsLongSpec)

end Rows
end Go.Proofs.YtadkjeefiacdbaaDoor
