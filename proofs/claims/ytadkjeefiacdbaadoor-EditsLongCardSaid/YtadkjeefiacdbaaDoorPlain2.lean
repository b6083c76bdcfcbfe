/-
  PLAIN LEAN, no program in sight: small laws on sums. Conditions: none.
-/
import Derived.Test.YtadkjeefiacdbaaDoorUtf5
set_option linter.unusedVariables false
namespace Go.Proofs.YtadkjeefiacdbaaDoor
open Go.Lib
theorem psum_le' : ∀ (l : List Nat) (a : Nat), ∀ y ∈ psum a l, y ≤ a + sumL l
  | [], a, y, h => by simp [psum] at h; simp; omega
  | x :: r, a, y, h => by
    simp only [psum, List.mem_cons] at h
    rw [sumL_cons]
    rcases h with rfl | h
    · omega
    · have := psum_le' r (a + x) y h
      omega
end Go.Proofs.YtadkjeefiacdbaaDoor
