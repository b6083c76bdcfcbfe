/-
  PLAIN LEAN, no program in sight: edits of a text, one by one; where a byte stands. Conditions: none.
-/
import Derived.Test.YtadkjeefiacdbaaDoorLin1
set_option linter.unusedVariables false
set_option linter.unusedSimpArgs false
namespace Go.Proofs.YtadkjeefiacdbaaDoor
open Go.Lib

/-- An edit: two places, and a text. -/
structure EdL where
  fl : Int
  fu : Int
  tl : Int
  tu : Int
  t : List UInt8
def edFind (l : List UInt8) (e : EdL) : Nat × Nat × Nat :=
  if validD l = true ∧ validD e.t = true then
    (if (offP l e.fl e.fu).2 = 0 ∧ (offP l e.tl e.tu).2 = 0 then
      (if (offP l e.tl e.tu).1 < (offP l e.fl e.fu).1 then (0, 0, 61) else ((offP l e.fl e.fu).1, (offP l e.tl e.tu).1, 0))
     else (0, 0, 51))
  else (0, 0, 11)
def edText (l t : List UInt8) (a b : Nat) : List UInt8 := l.take a ++ t ++ l.drop b
/-- What one edit makes: the text, its places, the error. -/
def edOne (l : List UInt8) (e : EdL) : List UInt8 × Nat × Nat × Nat :=
  if (edFind l e).2.2 = 0 then
    (if 16384 + ((edFind l e).2.1 - (edFind l e).1) < l.length + e.t.length then ([], 0, 0, 73) else (edText l e.t (edFind l e).1 (edFind l e).2.1, (edFind l e).1, (edFind l e).2.1, 0))
  else ([], 0, 0, (edFind l e).2.2)
def applyGo : List UInt8 → List EdL → List UInt8 × Nat
  | l, [] => (l, 0)
  | l, e :: r => if (edOne l e).2.2.2 = 0 then applyGo (edOne l e).1 r else ([], (edOne l e).2.2.2)
def applyL (l : List UInt8) (es : List EdL) : List UInt8 × Nat := if validD l = true then applyGo l es else ([], 11)

/-- An offset of a place is within the text, and a scalar begins there. -/
theorem offP_start (l : List UInt8) (hv : validD l = true) (n u : Int) (k : Nat) (h : offP l n u = (k, 0)) : startAt l k := by
  unfold offP at h
  split at h
  · rename_i hn
    obtain ⟨m, rfl⟩ : ∃ m : Nat, n = m := ⟨n.toNat, by omega⟩
    rw [Int.toNat_natCast] at h
    have hm : m < nLines l := by omega
    cases ho : offL (lineN l m) u with
    | none => rw [ho] at h; simp at h
    | some j =>
      rw [ho] at h
      simp only [Prod.mk.injEq, and_true] at h
      have hvl := line_right l hv m hm
      obtain ⟨_, _, _, hst, _, hj⟩ := off_back (lineN l m) hvl u j ho
      obtain ⟨hl1, hl2⟩ := lineN_at l hm
      refine ⟨by omega, by omega, fun hlt => ?_⟩
      rw [Int.toNat_natCast, ← h]
      by_cases hjl : j < (lineN l m).length
      · have h1 := hst.2.2 (by omega)
        rw [Int.toNat_natCast] at h1
        have hsp := line_split (l.drop (startN l m))
        rw [← hl1] at hsp
        have : l.getD (startN l m + j) 0 = (lineN l m).getD j 0 := by
          rw [← getD_drop', hsp, List.getD_eq_getElem?_getD, List.getElem?_append_left hjl, List.getD_eq_getElem?_getD]
        rw [this]
        exact h1
      · have hje : j = (lineN l m).length := by omega
        have hsp := line_split (l.drop (startN l m))
        rw [← hl1] at hsp
        cases hr : restOf (l.drop (startN l m)) with
        | none =>
          rw [hr, List.append_nil] at hsp
          have := congrArg List.length hsp
          rw [List.length_drop] at this
          omega
        | some r =>
          rw [hr] at hsp
          have : l.getD (startN l m + j) 0 = 10 := by
            rw [← getD_drop', hsp, hje, List.getD_eq_getElem?_getD, List.getElem?_append_right (Nat.le_refl _), Nat.sub_self]
            rfl
          rw [this]
          decide
  · simp at h
theorem edText_right (l t : List UInt8) (hv : validD l = true) (ht : validD t = true) (a b : Nat) (ha : startAt l a) (hb : startAt l b) : validD (edText l t a b) = true := by
  obtain ⟨_, h1, _⟩ := (unitAt_start l hv a).1 ha
  obtain ⟨_, _, h2⟩ := (unitAt_start l hv b).1 hb
  rw [Int.toNat_natCast] at h1 h2
  unfold edText
  rw [List.append_assoc, validD_append _ _ h1, validD_append _ _ ht]
  exact h2
theorem edFind_ok {l : List UInt8} {e : EdL} (h : (edFind l e).2.2 = 0) :
    validD l = true ∧ validD e.t = true ∧ offP l e.fl e.fu = ((edFind l e).1, 0) ∧ offP l e.tl e.tu = ((edFind l e).2.1, 0) ∧ (edFind l e).1 ≤ (edFind l e).2.1 := by
  unfold edFind at h ⊢
  split at h
  · rename_i h1
    split at h
    · rename_i h2
      split at h
      · simp at h
      · rename_i h3
        rw [if_pos h1, if_pos h2, if_neg h3]
        refine ⟨h1.1, h1.2, Prod.ext rfl h2.1, Prod.ext rfl h2.2, by simp only; omega⟩
    · simp at h
  · simp at h
theorem edOne_ok {l : List UInt8} {e : EdL} (h : (edOne l e).2.2.2 = 0) :
    (edFind l e).2.2 = 0 ∧ edOne l e = (edText l e.t (edFind l e).1 (edFind l e).2.1, (edFind l e).1, (edFind l e).2.1, 0) ∧ l.length + e.t.length ≤ 16384 + ((edFind l e).2.1 - (edFind l e).1) := by
  unfold edOne at h ⊢
  split at h
  · rename_i h1
    split at h
    · simp at h
    · rename_i h2
      rw [if_pos h1, if_neg h2]
      exact ⟨h1, rfl, by omega⟩
  · rename_i h1
    exact absurd h h1
theorem edOne_right {l : List UInt8} {e : EdL} (h : (edOne l e).2.2.2 = 0) : validD (edOne l e).1 = true := by
  obtain ⟨h1, h2, _⟩ := edOne_ok h
  obtain ⟨hv, ht, ha, hb, _⟩ := edFind_ok h1
  rw [h2]
  exact edText_right l e.t hv ht _ _ (offP_start l hv _ _ _ ha) (offP_start l hv _ _ _ hb)
theorem edFind_le {l : List UInt8} {e : EdL} (h : (edFind l e).2.2 = 0) : (edFind l e).2.1 ≤ l.length := by
  obtain ⟨hv, _, _, hb, _⟩ := edFind_ok h
  have := (offP_start l hv _ _ _ hb).2.1
  omega
theorem edText_length (l t : List UInt8) (a b : Nat) (h : a ≤ b) (hb : b ≤ l.length) : (edText l t a b).length + (b - a) = l.length + t.length := by
  unfold edText
  rw [List.length_append, List.length_append, List.length_take, List.length_drop]
  omega
theorem applyGo_ok {l : List UInt8} {e : EdL} {r : List EdL} (h : (edOne l e).2.2.2 = 0) : applyGo l (e :: r) = applyGo (edOne l e).1 r := by
  show (if (edOne l e).2.2.2 = 0 then applyGo (edOne l e).1 r else ([], (edOne l e).2.2.2)) = _
  rw [if_pos h]
theorem applyGo_no {l : List UInt8} {e : EdL} {r : List EdL} (h : ¬(edOne l e).2.2.2 = 0) : applyGo l (e :: r) = ([], (edOne l e).2.2.2) := by
  show (if (edOne l e).2.2.2 = 0 then applyGo (edOne l e).1 r else ([], (edOne l e).2.2.2)) = _
  rw [if_neg h]
theorem applyGo_append (l : List UInt8) (x y : List EdL) : applyGo l (x ++ y) = if (applyGo l x).2 = 0 then applyGo (applyGo l x).1 y else ([], (applyGo l x).2) := by
  induction x generalizing l with
  | nil => simp [applyGo]
  | cons e r ih =>
    rw [List.cons_append]
    by_cases h : (edOne l e).2.2.2 = 0
    · rw [applyGo_ok h, applyGo_ok h, ih]
    · rw [applyGo_no h, applyGo_no h, if_neg h]
theorem applyGo_right {l : List UInt8} {x : List EdL} (hv : validD l = true) (h : (applyGo l x).2 = 0) : validD (applyGo l x).1 = true := by
  induction x generalizing l with
  | nil => exact hv
  | cons e r ih =>
    by_cases h1 : (edOne l e).2.2.2 = 0
    · rw [applyGo_ok h1] at h ⊢
      exact ih (edOne_right h1) h
    · rw [applyGo_no h1] at h
      exact absurd h h1
/-- Edits, one by one, are first some, then the others. -/
theorem applyL_append (l : List UInt8) (x y : List EdL) : applyL l (x ++ y) = if (applyL l x).2 = 0 then applyL (applyL l x).1 y else ([], (applyL l x).2) := by
  unfold applyL
  by_cases hv : validD l = true
  · rw [if_pos hv, if_pos hv, applyGo_append]
    by_cases h : (applyGo l x).2 = 0
    · rw [if_pos h, if_pos h, if_pos (applyGo_right hv h)]
    · rw [if_neg h, if_neg h]
  · rw [if_neg hv, if_neg hv]
    rfl

/-- Where a byte stands behind an edit. -/
def moveL (l : List UInt8) (e : EdL) (x : Int) : Nat × Nat :=
  if (edOne l e).2.2.2 = 0 then
    (if x < 0 ∨ (l.length : Int) < x then (0, 51) else
     if x ≤ ((edOne l e).2.1 : Nat) then (x.toNat, 0) else
     if ((edOne l e).2.2.1 : Nat) ≤ x then ((edOne l e).1.length + x.toNat - l.length, 0) else ((edOne l e).2.1 + e.t.length, 0))
  else (0, (edOne l e).2.2.2)
end Go.Proofs.YtadkjeefiacdbaaDoor
