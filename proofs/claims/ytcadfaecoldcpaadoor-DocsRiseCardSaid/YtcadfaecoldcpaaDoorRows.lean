/-
  NARROWER THAN 'FOR EVERY INPUT', by the rows' own cells (each row's printed sentence says how): DocsRefused: laid · DocsPlay: laid · DocsRise: laid · DocsLong: laid.
  DERIVED. THE GIVEN ROWS OF THIS SEAT. 4 by the template 'for every input the law returns true; each argument reads behind the call as it read before'; 0 by the template 'total and deterministic' (their statements: YtcadfaecoldcpaaDoorTotals.lean).
  GIVEN WITH THE SEED: the statements are not yours to turn. If you find one false, say at which input.
  Laid BY PROGRAM, IN A SANDBOX (cutbox-rows.mjs): the forced cells as the released guide's own fill.sh prints them over the translation c34fdead6462ee6e… (all of the seat's roots in one cut). By AI agents, Wed Nov 11 2026. No macro, syntax, notation, axiom, sorry.
-/
import Derived.Test.YtcadfaecoldcpaaDoorChecked
import GoSem.PinnedTables
import GoSem.Claim
import GoSem.ClaimJoined
import GoSem.ClaimMapViews
import Derived.JoinedTies
import Derived.KernelRfl
namespace Go.Proofs.YtcadfaecoldcpaaDoor
/- THE CELL 'sum', in the pinned program and in every row, IS THE sha256 OF THE DUMP (.gsa) THAT YtcadfaecoldcpaaDoorProg.lean LOADS. Nothing in Lean hashes anything: it is a label: what it is worth is what the hold of that sum in a sandbox is worth. -/
noncomputable def Tryd.pinned : Pinned := { name := "ytcadfaecoldcpaadoor", sum := "c34fdead6462ee6e835cac9e1d630f00bd965bf09e16baafb604d22d946847b5", checked := Tryd.checked }
namespace Rows
def none {H : Type} : Left H := { results := [], args := [] }

/- WHAT THE LISTED PACKAGE-LEVEL VARIABLES READ AS WHEN THE CALL BEGINS. Each datum BY PROGRAM (the guide's laid-datum.mjs) off the statement by which the dump's own 'gosem.cut.vars' lays the variable. In a bare row this is a premise. The card (YtcadfaecoldcpaaDoorCards.lean) ties it to the program's text. -/
def laid_unicode_utf8_acceptRanges {H : Type} : DataW H := .agg [.agg [.lit (.int .u8 128), .lit (.int .u8 191)], .agg [.lit (.int .u8 160), .lit (.int .u8 191)], .agg [.lit (.int .u8 128), .lit (.int .u8 159)], .agg [.lit (.int .u8 144), .lit (.int .u8 191)], .agg [.lit (.int .u8 128), .lit (.int .u8 143)], .agg [.lit (.int .u8 0), .lit (.int .u8 0)], .agg [.lit (.int .u8 0), .lit (.int .u8 0)], .agg [.lit (.int .u8 0), .lit (.int .u8 0)], .agg [.lit (.int .u8 0), .lit (.int .u8 0)], .agg [.lit (.int .u8 0), .lit (.int .u8 0)], .agg [.lit (.int .u8 0), .lit (.int .u8 0)], .agg [.lit (.int .u8 0), .lit (.int .u8 0)], .agg [.lit (.int .u8 0), .lit (.int .u8 0)], .agg [.lit (.int .u8 0), .lit (.int .u8 0)], .agg [.lit (.int .u8 0), .lit (.int .u8 0)], .agg [.lit (.int .u8 0), .lit (.int .u8 0)]]
/-- One of Go's own tables, pinned by name: the form's constant. -/
def laid_unicode_utf8_first : DataW Unit := Go.Pinned.utf8First

/-- 'boltholelaw07.DocsRefused': WHATEVER THE INPUT: true; the input reads as it did. -/
def docsRefusedSpec : ChangeSpec := { name := "docsRefused", fn := fun _ => fun
  | [d1, d2] => { results := [.lit (.bool true)], args := [d1, d2] }
  | _ => none }
def docsRefusedRow : OpenClaim := { program := "ytcadfaecoldcpaadoor", sum := "c34fdead6462ee6e835cac9e1d630f00bd965bf09e16baafb604d22d946847b5", func := "bolthole/boltholelaw07.DocsRefused", spec := "docsRefused", inPlace := ["internal/bytealg.IndexByteString", "internal/bytealg.IndexString"], unfollowed := true, recurses := true, named := ["unicode/utf8.first", "unicode/utf8.acceptRanges", "internal/bytealg.MaxLen"], apart := false, laid := [("unicode/utf8.acceptRanges", laid_unicode_utf8_acceptRanges), ("unicode/utf8.first", laid_unicode_utf8_first)] }
def DocsRefusedSaid : Prop := docsRefusedRow.holds Tryd.pinned (OpenSpec.ofChange docsRefusedSpec)

/-- ITS FALSE NEIGHBOUR: 'it returns false'. Refute it at one input. -/
def docsRefusedWrong : ChangeSpec := { name := "docsRefused", fn := fun _ => fun
  | [d1, d2] => { results := [.lit (.bool false)], args := [d1, d2] }
  | _ => none }
def DocsRefusedWrongFalsely : Prop := docsRefusedRow.holds Tryd.pinned (OpenSpec.ofChange docsRefusedWrong)

/-- 'boltholelaw07.DocsPlay': WHATEVER THE INPUT: true; the input reads as it did. -/
def docsPlaySpec : ChangeSpec := { name := "docsPlay", fn := fun _ => fun
  | [d] => { results := [.lit (.bool true)], args := [d] }
  | _ => none }
def docsPlayRow : OpenClaim := { program := "ytcadfaecoldcpaadoor", sum := "c34fdead6462ee6e835cac9e1d630f00bd965bf09e16baafb604d22d946847b5", func := "bolthole/boltholelaw07.DocsPlay", spec := "docsPlay", inPlace := ["internal/bytealg.IndexByteString", "internal/bytealg.IndexString"], unfollowed := true, recurses := true, named := ["unicode/utf8.first", "unicode/utf8.acceptRanges", "internal/bytealg.MaxLen"], apart := false, laid := [("unicode/utf8.acceptRanges", laid_unicode_utf8_acceptRanges), ("unicode/utf8.first", laid_unicode_utf8_first)] }
def DocsPlaySaid : Prop := docsPlayRow.holds Tryd.pinned (OpenSpec.ofChange docsPlaySpec)

/-- ITS FALSE NEIGHBOUR: 'it returns false'. Refute it at one input. -/
def docsPlayWrong : ChangeSpec := { name := "docsPlay", fn := fun _ => fun
  | [d] => { results := [.lit (.bool false)], args := [d] }
  | _ => none }
def DocsPlayWrongFalsely : Prop := docsPlayRow.holds Tryd.pinned (OpenSpec.ofChange docsPlayWrong)

/-- 'boltholelaw07.DocsRise': WHATEVER THE INPUT: true; the input reads as it did. -/
def docsRiseSpec : ChangeSpec := { name := "docsRise", fn := fun _ => fun
  | [d] => { results := [.lit (.bool true)], args := [d] }
  | _ => none }
def docsRiseRow : OpenClaim := { program := "ytcadfaecoldcpaadoor", sum := "c34fdead6462ee6e835cac9e1d630f00bd965bf09e16baafb604d22d946847b5", func := "bolthole/boltholelaw07.DocsRise", spec := "docsRise", inPlace := ["internal/bytealg.IndexByteString", "internal/bytealg.IndexString"], unfollowed := true, recurses := true, named := ["unicode/utf8.first", "unicode/utf8.acceptRanges", "internal/bytealg.MaxLen"], apart := false, laid := [("unicode/utf8.acceptRanges", laid_unicode_utf8_acceptRanges), ("unicode/utf8.first", laid_unicode_utf8_first)] }
def DocsRiseSaid : Prop := docsRiseRow.holds Tryd.pinned (OpenSpec.ofChange docsRiseSpec)

/-- ITS FALSE NEIGHBOUR: 'it returns false'. Refute it at one input. -/
def docsRiseWrong : ChangeSpec := { name := "docsRise", fn := fun _ => fun
  | [d] => { results := [.lit (.bool false)], args := [d] }
  | _ => none }
def DocsRiseWrongFalsely : Prop := docsRiseRow.holds Tryd.pinned (OpenSpec.ofChange docsRiseWrong)

/-- 'boltholelaw07.DocsLong': WHATEVER THE INPUT: true; the input reads as it did. -/
def docsLongSpec : ChangeSpec := { name := "docsLong", fn := fun _ => fun
  | [d1, d2] => { results := [.lit (.bool true)], args := [d1, d2] }
  | _ => none }
def docsLongRow : OpenClaim := { program := "ytcadfaecoldcpaadoor", sum := "c34fdead6462ee6e835cac9e1d630f00bd965bf09e16baafb604d22d946847b5", func := "bolthole/boltholelaw07.DocsLong", spec := "docsLong", inPlace := ["internal/bytealg.IndexByteString", "internal/bytealg.IndexString"], unfollowed := true, recurses := true, named := ["unicode/utf8.first", "unicode/utf8.acceptRanges", "internal/bytealg.MaxLen"], apart := false, laid := [("unicode/utf8.acceptRanges", laid_unicode_utf8_acceptRanges), ("unicode/utf8.first", laid_unicode_utf8_first)] }
def DocsLongSaid : Prop := docsLongRow.holds Tryd.pinned (OpenSpec.ofChange docsLongSpec)

/-- ITS FALSE NEIGHBOUR: 'it returns false'. Refute it at one input. -/
def docsLongWrong : ChangeSpec := { name := "docsLong", fn := fun _ => fun
  | [d1, d2] => { results := [.lit (.bool false)], args := [d1, d2] }
  | _ => none }
def DocsLongWrongFalsely : Prop := docsLongRow.holds Tryd.pinned (OpenSpec.ofChange docsLongWrong)

/- THE SECOND FORM. 'bulk': how many values and letters a reading holds, each counted each time it is reached (what is shared counts as often as it is met; a slice's spare places count too). A statement '..UptoSaid' is the law's where the arguments, and the package variables that the reading takes, are together of bulk at most 1048576: NARROWER than '..Said'. Prove '..Said' where nothing that the law and all that it calls make is longer than what came in: it says more and counts as full. Else prove '..UptoSaid'. A law counts once. -/
mutual
def uptoBulk {H : Type} : DataW H → Nat
  | .lit (.string bytes) => bytes.length + 1
  | .lit _ => 1
  | .nil => 1
  | .ptr d => uptoBulk d + 1
  | .slice elems spare => uptoBulkAll elems + uptoBulkAll spare + 1
  | .agg parts => uptoBulkAll parts + 1
  | .iface _ d => uptoBulk d + 1
  | .map entries => uptoBulkEntries entries + 1
  | .held _ => 1
def uptoBulkAll {H : Type} : List (DataW H) → Nat
  | [] => 0
  | d :: r => uptoBulk d + uptoBulkAll r
def uptoBulkEntries {H : Type} : List (Lit × DataW H) → Nat
  | [] => 0
  | x :: r => uptoBulkEntry x + uptoBulkEntries r
def uptoBulkEntry {H : Type} : Lit × DataW H → Nat
  | (.string bytes, d) => bytes.length + uptoBulk d + 1
  | (_, d) => uptoBulk d + 1
 end
def uptoSmall : (H : Type) → List (DataW H) → Bool := fun _ ds => decide (uptoBulkAll ds ≤ 1048576)
def OpenSpec.upto (s : _root_.Go.ChangeSpec) : _root_.Go.OpenSpec := { _root_.Go.OpenSpec.ofChange s with cond := some uptoSmall }

/-- 'boltholelaw07.DocsRefused', WHERE WHAT IT READS IS OF BULK AT MOST 1048576: true; the input reads as it did. -/
def docsRefusedUptoRow : OpenClaim := { program := "ytcadfaecoldcpaadoor", sum := "c34fdead6462ee6e835cac9e1d630f00bd965bf09e16baafb604d22d946847b5", func := "bolthole/boltholelaw07.DocsRefused", spec := "docsRefused", inPlace := ["internal/bytealg.IndexByteString", "internal/bytealg.IndexString"], unfollowed := true, recurses := true, named := ["unicode/utf8.first", "unicode/utf8.acceptRanges", "internal/bytealg.MaxLen"], apart := false, laid := [("unicode/utf8.acceptRanges", laid_unicode_utf8_acceptRanges), ("unicode/utf8.first", laid_unicode_utf8_first)], narrowed := true }
def DocsRefusedUptoSaid : Prop := docsRefusedUptoRow.holds Tryd.pinned (OpenSpec.upto docsRefusedSpec)

/-- 'boltholelaw07.DocsPlay', WHERE WHAT IT READS IS OF BULK AT MOST 1048576: true; the input reads as it did. -/
def docsPlayUptoRow : OpenClaim := { program := "ytcadfaecoldcpaadoor", sum := "c34fdead6462ee6e835cac9e1d630f00bd965bf09e16baafb604d22d946847b5", func := "bolthole/boltholelaw07.DocsPlay", spec := "docsPlay", inPlace := ["internal/bytealg.IndexByteString", "internal/bytealg.IndexString"], unfollowed := true, recurses := true, named := ["unicode/utf8.first", "unicode/utf8.acceptRanges", "internal/bytealg.MaxLen"], apart := false, laid := [("unicode/utf8.acceptRanges", laid_unicode_utf8_acceptRanges), ("unicode/utf8.first", laid_unicode_utf8_first)], narrowed := true }
def DocsPlayUptoSaid : Prop := docsPlayUptoRow.holds Tryd.pinned (OpenSpec.upto docsPlaySpec)

/-- 'boltholelaw07.DocsRise', WHERE WHAT IT READS IS OF BULK AT MOST 1048576: true; the input reads as it did. -/
def docsRiseUptoRow : OpenClaim := { program := "ytcadfaecoldcpaadoor", sum := "c34fdead6462ee6e835cac9e1d630f00bd965bf09e16baafb604d22d946847b5", func := "bolthole/boltholelaw07.DocsRise", spec := "docsRise", inPlace := ["internal/bytealg.IndexByteString", "internal/bytealg.IndexString"], unfollowed := true, recurses := true, named := ["unicode/utf8.first", "unicode/utf8.acceptRanges", "internal/bytealg.MaxLen"], apart := false, laid := [("unicode/utf8.acceptRanges", laid_unicode_utf8_acceptRanges), ("unicode/utf8.first", laid_unicode_utf8_first)], narrowed := true }
def DocsRiseUptoSaid : Prop := docsRiseUptoRow.holds Tryd.pinned (OpenSpec.upto docsRiseSpec)

/-- 'boltholelaw07.DocsLong', WHERE WHAT IT READS IS OF BULK AT MOST 1048576: true; the input reads as it did. -/
def docsLongUptoRow : OpenClaim := { program := "ytcadfaecoldcpaadoor", sum := "c34fdead6462ee6e835cac9e1d630f00bd965bf09e16baafb604d22d946847b5", func := "bolthole/boltholelaw07.DocsLong", spec := "docsLong", inPlace := ["internal/bytealg.IndexByteString", "internal/bytealg.IndexString"], unfollowed := true, recurses := true, named := ["unicode/utf8.first", "unicode/utf8.acceptRanges", "internal/bytealg.MaxLen"], apart := false, laid := [("unicode/utf8.acceptRanges", laid_unicode_utf8_acceptRanges), ("unicode/utf8.first", laid_unicode_utf8_first)], narrowed := true }
def DocsLongUptoSaid : Prop := docsLongUptoRow.holds Tryd.pinned (OpenSpec.upto docsLongSpec)

end Rows
end Go.Proofs.YtcadfaecoldcpaaDoor
