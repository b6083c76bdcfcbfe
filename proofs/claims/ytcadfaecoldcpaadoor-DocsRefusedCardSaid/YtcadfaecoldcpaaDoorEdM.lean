/-
  THE WALKS of the statements EditsApply, EditsTell. Conditions: what Env says of the world; the arguments. bounds.
-/
import Derived.Test.YtcadfaecoldcpaaDoorEdL
set_option linter.unusedVariables false
set_option linter.unusedSimpArgs false
namespace Go.Proofs.YtcadfaecoldcpaaDoor
open Go.RowKit Go.Lib Go.Shelf

structure EdV.Wide (e : EdV) : Prop where
  fu : e.fu ≤ 9223372036854775807
  tu : e.tu ≤ 9223372036854775807
  t : e.t.size ≤ 140737488355328
theorem fits_ok {s : ByteArray} {l : List EdV} (h : FitsOk s l) (hok : ∀ e ∈ l, e.Wide) : s.size ≤ 4194304 ∧ l.length ≤ 1048576 ∧ ∀ e ∈ l, e.Ok := by
  have h1 := h.1
  have h2 := h.2
  refine ⟨by omega, by omega, fun e he => ⟨(hok e he).fu, (hok e he).tu, ?_⟩⟩
  have := h.elem e he
  omega

end Go.Proofs.YtcadfaecoldcpaaDoor
