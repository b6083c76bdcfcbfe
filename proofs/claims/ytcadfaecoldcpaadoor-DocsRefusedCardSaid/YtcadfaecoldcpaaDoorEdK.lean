/-
  THE WALK of the document's Between. Conditions: stated at each.
-/
import Derived.Test.YtcadfaecoldcpaaDoorEdJ
import Derived.Deep.RegionHeld3
import Derived.Deep.DrawnRows
import Derived.Deep.DeepCutAuto
set_option linter.unusedVariables false
set_option linter.unusedSimpArgs false
namespace Go.Proofs.YtcadfaecoldcpaaDoor
open Go.RowKit Go.Lib Go.Shelf
attribute [local go_sem ↓] Go.wp_at_zero Go.wp_at_succ

/-- A block that a call begins with. -/
theorem boxes1h {w w' : World} {C : Array Value} {t : TypeId} (h : Below (w.alloc (.cells C t)).heap.size (w.alloc (.cells C t)) w') :
    w'.heap[w.heap.size]? = some (.cells C t) ∧ Below w.heap.size w w' ∧ w.heap.size + 1 ≤ w'.heap.size := by
  have hs := h.size
  rw [World.size_alloc] at hs
  exact ⟨(h.block w.heap.size (by simp)).trans (heap_alloc_new _ _), bth (bal w _) h, hs⟩

end Go.Proofs.YtcadfaecoldcpaaDoor
