/-
  THE WALK of layer 5.s alive. Conditions: what Env says of the world.
-/
import Derived.Test.YtcadfaecoldcpaaDoorLinE
set_option linter.unusedVariables false
set_option linter.unusedSimpArgs false
namespace Go.Proofs.YtcadfaecoldcpaaDoor
open Go.RowKit Go.Lib Go.Shelf

def liveB : ByteArray := ⟨#[97, 98, 10, 240, 159, 152, 128, 99, 10]⟩
set_option maxRecDepth 100000 in
theorem live_right : validD liveB.data.toList = true := by decide
set_option maxRecDepth 100000 in
theorem live_off1 : offP liveB.data.toList 1 2 = (7, 0) := by decide
set_option maxRecDepth 100000 in
theorem live_off2 : offP liveB.data.toList 1 1 = (0, 51) := by decide
set_option maxRecDepth 100000 in
theorem live_lines : nLines liveB.data.toList = 3 := by decide
set_option maxRecDepth 100000 in
theorem live_line : lineB liveB 0 = ⟨#[97, 98]⟩ := by
  unfold lineB
  rw [show lineN liveB.data.toList 0 = [97, 98] by decide]
set_option maxRecDepth 100000 in
theorem live_place : placeP liveB.data.toList 8 = (1, 3, 0) := by
  have h : OnLine liveB.data.toList 8 1 := ⟨by decide, by decide, by decide⟩
  have := placeP_on h (by decide)
  rw [show ((8 : Nat) : Int) = 8 from rfl] at this
  rw [this, show unitAt (lineN liveB.data.toList 1) ((8 - startN liveB.data.toList 1 : Nat) : Int) = some 3 by decide]

end Go.Proofs.YtcadfaecoldcpaaDoor
