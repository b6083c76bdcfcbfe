/-
  PLAIN LEAN, no program in sight: the reference's reading of one scalar is the decoder's; the places of a right text; where a byte stands. Conditions: none.
-/
import Derived.Test.YtadkjeefiacdbaaDoorUtf0
set_option linter.unusedVariables false
namespace Go.Proofs.YtadkjeefiacdbaaDoor
open Go.Lib

/-- The reference's scalar: the decoder's, but (0, 0) of a wrong one. -/
def refN (n b0 b1 b2 b3 : Nat) : Nat × Nat := if (decodeN n b0 b1 b2 b3).1 = 65533 ∧ (decodeN n b0 b1 b2 b3).2 = 1 then (0, 0) else decodeN n b0 b1 b2 b3
def refScal (l : List UInt8) : Nat × Nat := if (decodeL l).1 = 65533 ∧ (decodeL l).2 = 1 then (0, 0) else decodeL l
def by_ (l : List UInt8) (k : Nat) : Nat := (l.getD k 0).toNat
theorem refScal_N (l : List UInt8) : refScal l = refN l.length (by_ l 0) (by_ l 1) (by_ l 2) (by_ l 3) := by
  unfold refScal refN by_
  rw [decodeL_N]
theorem by_lt (l : List UInt8) (k : Nat) : by_ l k < 256 := UInt8.toNat_lt _
theorem by_get (s : ByteArray) (k : Nat) (h : k < s.size) : by_ s.data.toList k = (s[k]'h).toNat := by
  unfold by_
  rw [List.getD_eq_getElem?_getD, Array.getElem?_toList, Array.getElem?_eq_getElem h]
  rfl

theorem refN_ascii (n b0 b1 b2 b3 : Nat) (h : b0 < 128) : refN n b0 b1 b2 b3 = (b0, 1) := by
  unfold refN
  rw [decodeN_ascii _ _ _ _ _ h, if_neg (by simp only; omega)]
theorem refN_bad (n b0 b1 b2 b3 : Nat) (h : 128 ≤ b0 ∧ b0 < 192 ∨ 248 ≤ b0) (h' : b0 < 256) : refN n b0 b1 b2 b3 = (0, 0) := by
  unfold refN
  rw [if_pos]
  rw [decodeN_bad _ _ _ _ _ (by omega)]
  exact ⟨rfl, rfl⟩
def badV (least c : Nat) : Prop := c < least ∨ 1114111 < c ∨ 55296 ≤ c ∧ c ≤ 57343
instance (least c : Nat) : Decidable (badV least c) := by unfold badV; infer_instance
theorem refN_c2 (n b0 b1 b2 b3 : Nat) (h : 192 ≤ b0 ∧ b0 < 224) (h1 : b1 < 256) :
    refN n b0 b1 b2 b3 = if n < 2 ∨ b1 / 64 ≠ 2 ∨ badV 128 ((b0 - 192) * 64 + (b1 - 128)) then (0, 0) else ((b0 - 192) * 64 + (b1 - 128), 2) := by
  unfold refN decodeN badV
  repeat' split
  all_goals first | (exfalso; simp only at *; omega) | (simp only; omega) | (apply Prod.ext <;> simp only <;> omega) | rfl
theorem refN_c3 (n b0 b1 b2 b3 : Nat) (h : 224 ≤ b0 ∧ b0 < 240) (h1 : b1 < 256) (h2 : b2 < 256) :
    refN n b0 b1 b2 b3 = if n < 3 ∨ b1 / 64 ≠ 2 ∨ b2 / 64 ≠ 2 ∨ badV 2048 (((b0 - 224) * 64 + (b1 - 128)) * 64 + (b2 - 128)) then (0, 0) else (((b0 - 224) * 64 + (b1 - 128)) * 64 + (b2 - 128), 3) := by
  unfold refN decodeN badV
  repeat' split
  all_goals first | (exfalso; simp only at *; omega) | (simp only; omega) | (apply Prod.ext <;> simp only <;> omega) | rfl
theorem refN_c4 (n b0 b1 b2 b3 : Nat) (h : 240 ≤ b0 ∧ b0 < 248) (h1 : b1 < 256) (h2 : b2 < 256) (h3 : b3 < 256) :
    refN n b0 b1 b2 b3 = if n < 4 ∨ b1 / 64 ≠ 2 ∨ b2 / 64 ≠ 2 ∨ b3 / 64 ≠ 2 ∨ badV 65536 ((((b0 - 240) * 64 + (b1 - 128)) * 64 + (b2 - 128)) * 64 + (b3 - 128)) then (0, 0)
      else ((((b0 - 240) * 64 + (b1 - 128)) * 64 + (b2 - 128)) * 64 + (b3 - 128), 4) := by
  unfold refN decodeN badV
  repeat' split
  all_goals first | (exfalso; simp only at *; omega) | (simp only; omega) | (apply Prod.ext <;> simp only <;> omega) | rfl
/-- What the reference's loop has read behind k bytes. -/
def accR (l : List UInt8) (c : Nat) : Nat → Nat
  | 0 => c
  | 1 => c
  | k + 2 => accR l c (k + 1) * 64 + (by_ l (k + 1) - 128)
end Go.Proofs.YtadkjeefiacdbaaDoor
