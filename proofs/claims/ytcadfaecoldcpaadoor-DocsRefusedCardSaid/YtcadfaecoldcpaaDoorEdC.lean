/-
  MEMORY WORDS of package edits: a slice of edits. Conditions: stated at each.
-/
import Derived.Test.YtcadfaecoldcpaaDoorEdB
set_option linter.unusedVariables false
set_option linter.unusedSimpArgs false
namespace Go.Proofs.YtcadfaecoldcpaaDoor
open Go.RowKit Go.Lib Go.Shelf

/-- A slice of edits. -/
def RdE (w : World) (A : Option Addr) (l : List EdV) : Prop := ∀ i (h : i < l.length), ∃ g o : Nat, A = some ⟨g, o, none⟩ ∧ g < w.heap.size ∧
  w.cell? ⟨g, o + i * 5, none⟩ = some (.int .i64 (l[i]'h).fl) ∧ w.cell? ⟨g, o + i * 5 + 1, none⟩ = some (.int .i64 (l[i]'h).fu) ∧ w.cell? ⟨g, o + i * 5 + 2, none⟩ = some (.int .i64 (l[i]'h).tl) ∧
  w.cell? ⟨g, o + i * 5 + 3, none⟩ = some (.int .i64 (l[i]'h).tu) ∧ w.cell? ⟨g, o + i * 5 + 4, none⟩ = some (.string (l[i]'h).t)
theorem RdE.below {w w' : World} {A : Option Addr} {l : List EdV} (h : RdE w A l) (hb : Below w.heap.size w w') : RdE w' A l := by
  intro i hi
  obtain ⟨g, o, hA, hlt, c0, c1, c2, c3, c4⟩ := h i hi
  have hs := hb.size
  have k : ∀ n, w'.cell? ⟨g, n, none⟩ = w.cell? ⟨g, n, none⟩ := fun n => hb.cell hlt
  exact ⟨g, o, hA, by omega, (k _).trans c0, (k _).trans c1, (k _).trans c2, (k _).trans c3, (k _).trans c4⟩
end Go.Proofs.YtcadfaecoldcpaaDoor
