/-
  THE WALK of the document's Move. Conditions: stated at each.
-/
import Derived.Test.YtcadfaecoldcpaaDoorEdH
set_option linter.unusedVariables false
set_option linter.unusedSimpArgs false
namespace Go.Proofs.YtcadfaecoldcpaaDoor
open Go.RowKit Go.Lib Go.Shelf

theorem data_inj {a b : ByteArray} (h : a.data.toList = b.data.toList) : a = b := ByteArray.ext (Array.ext' h)
theorem applyL_one (l : List UInt8) (e : EdL) : applyL l [e] = ((edOne l e).1, (edOne l e).2.2.2) := by
  unfold applyL
  by_cases hv : validD l = true
  · rw [if_pos hv]
    by_cases h : (edOne l e).2.2.2 = 0
    · rw [applyGo_ok h, h]
      rfl
    · rw [applyGo_no h]
      have : (edOne l e).1 = [] := by
        unfold edOne at h ⊢
        split
        · rename_i h1
          rw [if_pos h1] at h
          split
          · rfl
          · rename_i h2
            rw [if_neg h2] at h
            exact absurd rfl h
        · rfl
      rw [this]
  · rw [if_neg hv]
    have h1 : edFind l e = (0, 0, 11) := by
      unfold edFind
      rw [if_neg fun h => hv h.1]
    unfold edOne
    rw [h1]
    rfl
theorem rdE_one (w : World) (e : EdV) (t : TypeId) : RdE (w.alloc (.cells e.cells t)) (some ⟨w.heap.size, 0, none⟩) [e] := by
  intro i hi
  have h0 : i = 0 := by
    rw [List.length_singleton] at hi
    omega
  subst h0
  have h := Below.refl (w.alloc (.cells e.cells t)).heap.size (w.alloc (.cells e.cells t))
  refine ⟨w.heap.size, 0, rfl, by rw [World.size_alloc]; omega, ?_, ?_, ?_, ?_, ?_⟩
  · exact boxN h 0 rfl
  · exact boxN h 1 rfl
  · exact boxN h 2 rfl
  · exact boxN h 3 rfl
  · exact boxN h 4 rfl

end Go.Proofs.YtcadfaecoldcpaaDoor
