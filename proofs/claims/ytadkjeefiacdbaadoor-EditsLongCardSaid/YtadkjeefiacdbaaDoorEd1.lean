/-
  PLAIN LEAN, no program in sight: the edit between two texts. Conditions: none.
-/
import Derived.Test.YtadkjeefiacdbaaDoorEd0
set_option linter.unusedVariables false
set_option linter.unusedSimpArgs false
namespace Go.Proofs.YtadkjeefiacdbaaDoor
open Go.Lib

/-- How many bytes two texts have in common where they begin. -/
def cpre : List UInt8 → List UInt8 → Nat
  | x :: l, y :: m => if x = y then cpre l m + 1 else 0
  | _, _ => 0
theorem cpre_le : ∀ (a b : List UInt8), cpre a b ≤ a.length ∧ cpre a b ≤ b.length
  | [], b => by simp [cpre]
  | x :: l, [] => by simp [cpre]
  | x :: l, y :: m => by
    unfold cpre
    have := cpre_le l m
    split <;> simp <;> omega
theorem cpre_lt : ∀ (a b : List UInt8) (k : Nat), k < cpre a b → a.getD k 0 = b.getD k 0
  | [], b, k, h => by simp [cpre] at h
  | x :: l, [], k, h => by simp [cpre] at h
  | x :: l, y :: m, k, h => by
    unfold cpre at h
    split at h
    · rename_i hx
      cases k with
      | zero => simpa using hx
      | succ k =>
        have := cpre_lt l m k (by omega)
        simpa using this
    · omega
theorem cpre_at : ∀ (a b : List UInt8), cpre a b < a.length → cpre a b < b.length → a.getD (cpre a b) 0 ≠ b.getD (cpre a b) 0
  | [], b, h, _ => by simp at h
  | x :: l, [], _, h => by simp at h
  | x :: l, y :: m, h, k => by
    by_cases hx : x = y
    · have e : cpre (x :: l) (y :: m) = cpre l m + 1 := by
        show (if x = y then cpre l m + 1 else 0) = _
        rw [if_pos hx]
      rw [e] at h k ⊢
      have := cpre_at l m (by simpa using h) (by simpa using k)
      simpa using this
    · have e : cpre (x :: l) (y :: m) = 0 := by
        show (if x = y then cpre l m + 1 else 0) = _
        rw [if_neg hx]
      rw [e]
      simpa using hx
theorem cpre_take : ∀ (a b : List UInt8) (k : Nat), k ≤ a.length → k ≤ b.length → (a.take k = b.take k ↔ k ≤ cpre a b)
  | a, b, 0, _, _ => by simp
  | [], b, k + 1, h, _ => by simp at h
  | x :: l, [], k + 1, _, h => by simp at h
  | x :: l, y :: m, k + 1, h, h' => by
    have ih := cpre_take l m k (by simpa using h) (by simpa using h')
    unfold cpre
    rw [List.take_succ_cons, List.take_succ_cons, List.cons.injEq, ih]
    split
    · rename_i hx
      simp [hx]
    · rename_i hx
      simp [hx]
/-- It is where the texts part. -/
theorem cpre_eq {a b : List UInt8} {n : Nat} (ha : n ≤ a.length) (hb : n ≤ b.length) (h : ∀ k, k < n → a.getD k 0 = b.getD k 0) (he : n = a.length ∨ n = b.length ∨ a.getD n 0 ≠ b.getD n 0) : cpre a b = n := by
  obtain ⟨h1, h2⟩ := cpre_le a b
  by_cases hlt : cpre a b < n
  · exact absurd (h _ hlt) (cpre_at a b (by omega) (by omega))
  · by_cases hgt : n < cpre a b
    · rcases he with he | he | he
      · omega
      · omega
      · exact absurd (cpre_lt a b n hgt) he
    · omega

/-- The greatest number, no greater, that fits. -/
def maxK (p : Nat → Bool) : Nat → Nat
  | 0 => 0
  | k + 1 => if p (k + 1) = true then k + 1 else maxK p k
theorem maxK_le (p : Nat → Bool) : ∀ k, maxK p k ≤ k
  | 0 => Nat.le_refl _
  | k + 1 => by
    unfold maxK
    split
    · exact Nat.le_refl _
    · exact Nat.le_succ_of_le (maxK_le p k)
theorem maxK_ok (p : Nat → Bool) (h0 : p 0 = true) : ∀ k, p (maxK p k) = true
  | 0 => h0
  | k + 1 => by
    unfold maxK
    split
    · assumption
    · exact maxK_ok p h0 k
theorem maxK_max (p : Nat → Bool) : ∀ k y, y ≤ k → p y = true → y ≤ maxK p k
  | 0, y, h, _ => h
  | k + 1, y, h, hp => by
    unfold maxK
    split
    · exact h
    · rename_i hn
      by_cases hy : y = k + 1
      · rw [hy] at hp
        exact absurd hp hn
      · exact maxK_max p k y (by omega) hp
theorem maxK_self (p : Nat → Bool) {k : Nat} (h : k = 0 ∨ p k = true) : maxK p k = k := by
  cases k with
  | zero => rfl
  | succ k =>
    rcases h with h | h
    · omega
    · unfold maxK
      rw [if_pos h]
theorem maxK_down (p : Nat → Bool) {k : Nat} (h0 : 0 < k) (h : p k = false) : maxK p k = maxK p (k - 1) := by
  cases k with
  | zero => omega
  | succ k =>
    conv => lhs; unfold maxK
    rw [if_neg (by rw [h]; simp)]
    rfl
theorem maxK_congr {p q : Nat → Bool} : ∀ {k : Nat}, (∀ y, 0 < y → y ≤ k → p y = q y) → maxK p k = maxK q k
  | 0, _ => rfl
  | k + 1, h => by
    unfold maxK
    rw [h (k + 1) (by omega) (Nat.le_refl _), maxK_congr fun y h0 hy => h y h0 (by omega)]

/-- A right beginning ends where a scalar begins. -/
theorem start_iff (l : List UInt8) (hv : validD l = true) (k : Nat) (hk : k ≤ l.length) : validD (l.take k) = true ↔ startAt l k := by
  constructor
  · intro h
    have e : l.take k ++ l.drop k = l := List.take_append_drop k l
    have hd : validD (l.drop k) = true := by
      rw [← validD_append _ (l.drop k) h, e]
      exact hv
    refine ⟨by omega, by omega, fun hlt => ?_⟩
    rw [Int.toNat_natCast]
    have hs := start0 (l.drop k) hd
    have h2 := hs.2.2 (by rw [List.length_drop]; omega)
    rw [Int.toNat_zero, getD_drop', Nat.add_zero] at h2
    exact h2
  · intro h
    have := ((unitAt_start l hv k).1 h).2.1
    rwa [Int.toNat_natCast] at this
theorem drop_iff (l : List UInt8) (hv : validD l = true) (k : Nat) (hk : k ≤ l.length) : validD (l.drop k) = true ↔ startAt l k := by
  constructor
  · intro hd
    refine ⟨by omega, by omega, fun hlt => ?_⟩
    rw [Int.toNat_natCast]
    have hs := start0 (l.drop k) hd
    have h2 := hs.2.2 (by rw [List.length_drop]; omega)
    rw [Int.toNat_zero, getD_drop', Nat.add_zero] at h2
    exact h2
  · intro h
    have := ((unitAt_start l hv k).1 h).2.2
    rwa [Int.toNat_natCast] at this
theorem start_nat (l : List UInt8) (k : Nat) : startAt l k ↔ k ≤ l.length ∧ (k < l.length → contB (l.getD k 0) = false) := by
  unfold startAt
  rw [Int.toNat_natCast]
  constructor
  · rintro ⟨_, h1, h2⟩
    exact ⟨by omega, fun h => h2 (by omega)⟩
  · rintro ⟨h1, h2⟩
    exact ⟨by omega, by omega, fun h => h2 (by omega)⟩

/-- The longest right beginning that both have; the longest right ending. -/
def pOk (a : List UInt8) (k : Nat) : Bool := validD (a.take k)
def qOk (a : List UInt8) (k : Nat) : Bool := validD (a.drop (a.length - k))
def begN (a b : List UInt8) : Nat := maxK (pOk a) (cpre a b)
def finN (a b : List UInt8) : Nat := maxK (qOk a) (cpre a.reverse b.reverse)
def finR (a b : List UInt8) : Nat := finN (a.drop (begN a b)) (b.drop (begN a b))
theorem begN_le (a b : List UInt8) : begN a b ≤ a.length ∧ begN a b ≤ b.length := by
  have h1 := maxK_le (pOk a) (cpre a b)
  have h2 := cpre_le a b
  unfold begN
  omega
theorem finN_le (a b : List UInt8) : finN a b ≤ a.length ∧ finN a b ≤ b.length := by
  have h1 := maxK_le (qOk a) (cpre a.reverse b.reverse)
  have h2 := cpre_le a.reverse b.reverse
  rw [List.length_reverse, List.length_reverse] at h2
  unfold finN
  omega
theorem finR_le (a b : List UInt8) : begN a b + finR a b ≤ a.length ∧ begN a b + finR a b ≤ b.length := by
  have h1 := finN_le (a.drop (begN a b)) (b.drop (begN a b))
  have h2 := begN_le a b
  rw [List.length_drop, List.length_drop] at h1
  unfold finR
  omega
theorem begN_ok (a b : List UInt8) : validD (a.take (begN a b)) = true := maxK_ok (pOk a) (by unfold pOk; rw [List.take_zero]; rfl) _
theorem begN_same (a b : List UInt8) : a.take (begN a b) = b.take (begN a b) := by
  obtain ⟨h1, h2⟩ := begN_le a b
  exact (cpre_take a b _ h1 h2).2 (maxK_le _ _)
theorem take_rev (a : List UInt8) (k : Nat) : a.drop (a.length - k) = (a.reverse.take k).reverse := by
  rw [List.take_reverse, List.reverse_reverse]
theorem finN_ok (a b : List UInt8) : validD (a.drop (a.length - finN a b)) = true := maxK_ok (qOk a) (by unfold qOk; rw [Nat.sub_zero, List.drop_length]; rfl) _
theorem finN_same (a b : List UInt8) : a.drop (a.length - finN a b) = b.drop (b.length - finN a b) := by
  obtain ⟨h1, h2⟩ := finN_le a b
  rw [take_rev, take_rev, (cpre_take a.reverse b.reverse _ (by rw [List.length_reverse]; exact h1) (by rw [List.length_reverse]; exact h2)).2 (show finN a b ≤ cpre a.reverse b.reverse from maxK_le _ _)]
theorem cpre_comm : ∀ (a b : List UInt8), cpre a b = cpre b a
  | [], [] => rfl
  | [], y :: m => rfl
  | x :: l, [] => rfl
  | x :: l, y :: m => by
    unfold cpre
    rw [cpre_comm l m]
    by_cases h : x = y
    · rw [if_pos h, if_pos h.symm]
    · rw [if_neg h, if_neg fun h' => h h'.symm]
theorem begN_comm (a b : List UInt8) : begN a b = begN b a := by
  unfold begN
  rw [cpre_comm b a]
  refine maxK_congr fun y _ hy => ?_
  have h := cpre_le a b
  unfold pOk
  rw [(cpre_take a b y (by omega) (by omega)).2 hy]
theorem finN_comm (a b : List UInt8) : finN a b = finN b a := by
  unfold finN
  rw [cpre_comm b.reverse a.reverse]
  refine maxK_congr fun y _ hy => ?_
  have h := cpre_le a.reverse b.reverse
  unfold qOk
  rw [take_rev, take_rev, (cpre_take a.reverse b.reverse y (by omega) (by omega)).2 hy]
theorem finR_comm (a b : List UInt8) : finR a b = finR b a := by
  unfold finR
  rw [finN_comm, begN_comm]

/-- What the edit between two texts puts in. -/
def midL (a b : List UInt8) : List UInt8 := (b.take (b.length - finR a b)).drop (begN a b)
theorem drop_end (a b : List UInt8) : a.drop (a.length - finR a b) = b.drop (b.length - finR a b) := by
  have h := finN_same (a.drop (begN a b)) (b.drop (begN a b))
  have hl := finR_le a b
  have hn := begN_le a b
  rw [List.drop_drop, List.drop_drop, List.length_drop, List.length_drop] at h
  have e1 : begN a b + (a.length - begN a b - finN (a.drop (begN a b)) (b.drop (begN a b))) = a.length - finR a b := by unfold finR at hl ⊢; omega
  have e2 : begN a b + (b.length - begN a b - finN (a.drop (begN a b)) (b.drop (begN a b))) = b.length - finR a b := by unfold finR at hl ⊢; omega
  rw [e1, e2] at h
  exact h
/-- The edit makes the second text of the first. -/
theorem between_makes (a b : List UInt8) : edText a (midL a b) (begN a b) (a.length - finR a b) = b := by
  have hl := finR_le a b
  unfold edText midL
  rw [drop_end, begN_same]
  have e : b.take (begN a b) = (b.take (b.length - finR a b)).take (begN a b) := by
    rw [List.take_take]
    congr 1
    omega
  rw [e, List.take_append_drop, List.take_append_drop]
theorem fin_start (a b : List UInt8) (ha : validD a = true) : startAt a ((a.length - finR a b : Nat) : Int) := by
  have h := finN_ok (a.drop (begN a b)) (b.drop (begN a b))
  have hl := finR_le a b
  rw [List.drop_drop, List.length_drop] at h
  have e1 : begN a b + (a.length - begN a b - finN (a.drop (begN a b)) (b.drop (begN a b))) = a.length - finR a b := by unfold finR at hl ⊢; omega
  rw [e1] at h
  exact (drop_iff a ha _ (by omega)).1 h
theorem beg_start (a b : List UInt8) (ha : validD a = true) : startAt a (begN a b : Nat) := (start_iff a ha _ (begN_le a b).1).1 (begN_ok a b)
theorem midL_right (a b : List UInt8) (ha : validD a = true) (hb : validD b = true) : validD (midL a b) = true := by
  have hl := finR_le a b
  have h1 : startAt b ((b.length - finR a b : Nat) : Int) := by
    rw [finR_comm]
    exact fin_start b a hb
  have h2 := ((unitAt_start b hb _).1 h1).2.1
  rw [Int.toNat_natCast] at h2
  have h3 : validD ((b.take (b.length - finR a b)).take (begN a b)) = true := by
    rw [List.take_take, Nat.min_eq_left (by omega), ← begN_same]
    exact begN_ok a b
  unfold midL
  rw [← validD_append _ _ h3, List.take_append_drop]
  exact h2
/-- One text alone: nothing is between. -/
theorem begN_self (a : List UInt8) (ha : validD a = true) : begN a a = a.length := by
  have h : cpre a a = a.length := cpre_eq (Nat.le_refl _) (Nat.le_refl _) (fun _ _ => rfl) (.inl rfl)
  unfold begN
  rw [h]
  exact maxK_self _ (.inr (by unfold pOk; rw [List.take_length]; exact ha))
end Go.Proofs.YtadkjeefiacdbaaDoor
