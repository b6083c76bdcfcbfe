/-
  PLAIN LEAN, no program in sight: places, as sums that rise. Conditions: none.
-/
import Derived.Test.YtadkjeefiacdbaaDoorUtf1
set_option linter.unusedVariables false
namespace Go.Proofs.YtadkjeefiacdbaaDoor
open Go.Lib

/-- The sums of a list's beginnings. -/
def psum : Nat → List Nat → List Nat
  | a, [] => [a]
  | a, x :: r => a :: psum (a + x) r
theorem psum_length : ∀ (l : List Nat) (a : Nat), (psum a l).length = l.length + 1
  | [], _ => rfl
  | x :: r, a => by simp [psum, psum_length r]
theorem psum_snoc : ∀ (l : List Nat) (a x : Nat), psum a (l ++ [x]) = psum a l ++ [a + sumL l + x]
  | [], a, x => by simp [psum]
  | y :: r, a, x => by simp only [List.cons_append, psum, psum_snoc r, sumL_cons, Nat.add_assoc]
theorem psum_last : ∀ (l : List Nat) (a : Nat), (psum a l).getD l.length 0 = a + sumL l
  | [], a => by simp [psum]
  | y :: r, a => by simp only [psum, List.length_cons, List.getD_cons_succ, psum_last r, sumL_cons, Nat.add_assoc]
theorem psum_head (l : List Nat) (a : Nat) : (psum a l).getD 0 0 = a := by cases l <;> rfl
def wds (l : List UInt8) : List Nat := (scals l).map (·.1)
def uns (l : List UInt8) : List Nat := (scals l).map (·.2)
/-- The places of a right text: bytes, and units. -/
def plB (l : List UInt8) : List Nat := psum 0 (wds l)
def plU (l : List UInt8) : List Nat := psum 0 (uns l)
theorem plB_length (l : List UInt8) : (plB l).length = (scals l).length + 1 := by simp [plB, psum_length, wds]
theorem plU_length (l : List UInt8) : (plU l).length = (scals l).length + 1 := by simp [plU, psum_length, uns]
theorem plU_last (l : List UInt8) : (plU l).getD (scals l).length 0 = unitsL l := by
  have := psum_last (uns l) 0
  rw [show (uns l).length = (scals l).length by simp [uns]] at this
  rw [plU, this]
  simp [unitsL, uns]
theorem plB_last (l : List UInt8) : (plB l).getD (scals l).length 0 = l.length := by
  have := psum_last (wds l) 0
  rw [show (wds l).length = (scals l).length by simp [wds]] at this
  rw [plB, this]
  simp [wds, scals_sum]
theorem scals_length_le (l : List UInt8) : (scals l).length ≤ l.length := by
  induction l using scal_ind with
  | h0 => exact Nat.le_refl _
  | h1 l hne ih =>
    rw [scals_step l hne, List.length_cons]
    rw [List.length_drop] at ih
    have h1 := decodeL_le l hne
    have h2 := decodeL_width l
    omega
/-- Where the reference stands behind some scalars. -/
structure PlAt (l : List UInt8) (at_ : Nat) (pre : List (Nat × Nat)) : Prop where
  app : pre ++ scals (l.drop at_) = scals l
  sum : sumL (pre.map (·.1)) = at_
  val : validD (l.drop at_) = validD l
  le : at_ ≤ l.length
theorem PlAt.zero (l : List UInt8) : PlAt l 0 [] := ⟨rfl, rfl, rfl, Nat.zero_le _⟩
theorem PlAt.len {l : List UInt8} {k : Nat} {pre : List (Nat × Nat)} (h : PlAt l k pre) : pre.length ≤ l.length := by
  have := scals_length_le l
  rw [← h.app, List.length_append] at this
  omega
theorem PlAt.next {l : List UInt8} {k : Nat} {pre : List (Nat × Nat)} (h : PlAt l k pre) (hk : k < l.length) (hv : ¬ ((decodeL (l.drop k)).1 = 65533 ∧ (decodeL (l.drop k)).2 = 1)) :
    PlAt l (k + (decodeL (l.drop k)).2) (pre ++ [((decodeL (l.drop k)).2, unsOf (decodeL (l.drop k)).1)]) := by
  have hne : l.drop k ≠ [] := by
    intro h0
    have := congrArg List.length h0
    rw [List.length_drop] at this
    simp at this
    omega
  have hle := decodeL_le _ hne
  rw [List.length_drop] at hle
  refine ⟨?_, ?_, ?_, by omega⟩
  · rw [← h.app, scals_step _ hne, List.drop_drop, List.append_assoc]
    rfl
  · rw [List.map_append, sumL_append, h.sum]
    rfl
  · rw [← h.val, validD_step _ hne, if_neg hv, List.drop_drop]
theorem PlAt.bad {l : List UInt8} {k : Nat} {pre : List (Nat × Nat)} (h : PlAt l k pre) (hk : k < l.length) (hv : (decodeL (l.drop k)).1 = 65533 ∧ (decodeL (l.drop k)).2 = 1) : validD l = false := by
  have hne : l.drop k ≠ [] := by
    intro h0
    have := congrArg List.length h0
    rw [List.length_drop] at this
    simp at this
    omega
  rw [← h.val, validD_step _ hne, if_pos hv]
theorem PlAt.end_ {l : List UInt8} {k : Nat} {pre : List (Nat × Nat)} (h : PlAt l k pre) (hk : ¬ k < l.length) : validD l = true ∧ pre = scals l := by
  have : l.drop k = [] := List.drop_eq_nil_of_le (by omega)
  have h1 := h.app
  have h2 := h.val
  rw [this] at h1 h2
  exact ⟨h2.symm.trans validD_nil, by simpa [scals_nil] using h1⟩
end Go.Proofs.YtadkjeefiacdbaaDoor
