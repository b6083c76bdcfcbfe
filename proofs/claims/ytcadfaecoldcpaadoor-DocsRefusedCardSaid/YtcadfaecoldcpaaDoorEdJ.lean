/-
  THE WALKS of the document's begins, finishes, Between. Conditions: stated at each.
-/
import Derived.Test.YtcadfaecoldcpaaDoorEdF
import Derived.Test.YtcadfaecoldcpaaDoorEdI
import Derived.Deep.QuietTactic
import Derived.BigQuiet
import Derived.Deep.CutBlock
set_option linter.unusedVariables false
set_option linter.unusedSimpArgs false
namespace Go.Proofs.YtcadfaecoldcpaaDoor
open Go.RowKit Go.Lib Go.Shelf

theorem str_ne (s t : ByteArray) (h : ¬ s = t) : (s.toList == t.toList) = false := by
  rw [beq_eq_false_iff_ne]
  intro h2
  exact h (data_inj (by simpa [ByteArray.toList_eq] using h2))
theorem bdN {B : Nat} {w w' : World} (h : Below B w w') (n : Nat) : Below B w (w'.drewN n) := h.trans ⟨rfl, rfl, rfl, Nat.le_refl _, fun _ _ => rfl⟩
theorem maxK_yes (p : Nat → Bool) {k : Nat} (h : p k = true) : maxK p k = k := maxK_self p (.inr h)
theorem maxK_no (p : Nat → Bool) {k : Nat} (h : p k = false) : maxK p k = maxK p (k - 1) := by
  cases k with
  | zero => rfl
  | succ k => exact maxK_down p (Nat.succ_pos k) h

-- behind begins, finishes
end Go.Proofs.YtcadfaecoldcpaaDoor
