/-
  THE WALKS of the function values of edits.Between: the bytes at a place, from the beginning, from the end; how many are one. Conditions: stated at each.
-/
import Derived.Test.YtcadfaecoldcpaaDoorEdC
import Derived.Test.YtcadfaecoldcpaaDoorPl
import Derived.Deep.QuietTactic
import Derived.BigQuiet
set_option linter.unusedVariables false
set_option linter.unusedSimpArgs false
namespace Go.Proofs.YtcadfaecoldcpaaDoor
open Go.RowKit Go.Lib Go.Shelf

/-- How many are one, of at most so many. -/
def CountOk (x y : Nat → Nat) (m c : Nat) : Prop := c ≤ m ∧ (∀ k, k < c → x k = y k) ∧ (c = m ∨ x c ≠ y c)
def CountPost (x y : Nat → Nat) (m : Nat) (w : World) (e : Ending) (w' : World) : Prop := ∃ c : Nat, e = .returned (.int .i64 (c : Nat)) ∧ CountOk x y m c ∧ Below w.heap.size w w'

end Go.Proofs.YtcadfaecoldcpaaDoor
