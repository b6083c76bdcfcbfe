/-
  PLAIN LEAN, no program in sight: the line that a byte is on; places and offsets, there and back; two texts joined. Conditions: none.
-/
import Derived.Test.YtadkjeefiacdbaaDoorLin0
import Derived.Test.YtadkjeefiacdbaaDoorPlain2
set_option linter.unusedVariables false
set_option linter.unusedSimpArgs false
namespace Go.Proofs.YtadkjeefiacdbaaDoor
open Go.Lib

def nLines (l : List UInt8) : Nat := (splitN l).length
def lineN (l : List UInt8) (n : Nat) : List UInt8 := (splitN l).getD n []
def startN (l : List UInt8) (n : Nat) : Nat := (startsL l).getD n 0
theorem nLines_pos (l : List UInt8) : 0 < nLines l := List.length_pos_iff.2 (splitN_ne l)
theorem startN_zero (l : List UInt8) : startN l 0 = 0 := rfl
theorem startN_lt (l : List UInt8) {i j : Nat} (hj : j < nLines l) (h : i < j) : startN l i < startN l j :=
  sorted_lt (starts_sorted l) (by rw [starts_length]; exact hj) h
theorem startN_next (l : List UInt8) {n : Nat} (hn : n + 1 < nLines l) : startN l (n + 1) = startN l n + (lineN l n).length + 1 :=
  (starts_next l n (by unfold nLines at hn; omega)).1 hn
theorem startN_last (l : List UInt8) {n : Nat} (hn : n + 1 = nLines l) : l.length = startN l n + (lineN l n).length :=
  (starts_next l n (by unfold nLines at hn; omega)).2 hn
theorem lineN_at (l : List UInt8) {n : Nat} (hn : n < nLines l) : lineN l n = lineOf (l.drop (startN l n)) ∧ startN l n + (lineN l n).length ≤ l.length := line_at l n hn

/-- A byte (or the end) is on the n-th line. -/
structure OnLine (l : List UInt8) (x n : Nat) : Prop where
  lt : n < nLines l
  ge : startN l n ≤ x
  le : x ≤ startN l n + (lineN l n).length
theorem OnLine.before {l : List UInt8} {x n m : Nat} (h : OnLine l x n) (hm : m < nLines l) (hnm : n < m) : x < startN l m := by
  have h1 : n + 1 < nLines l := by omega
  have h2 := startN_next l h1
  have h3 : startN l (n + 1) ≤ startN l m := by
    rcases Nat.lt_or_ge (n + 1) m with h | h
    · exact Nat.le_of_lt (startN_lt l hm h)
    · rw [show m = n + 1 by omega]; exact Nat.le_refl _
  have := h.le
  omega
theorem OnLine.uniq {l : List UInt8} {x n m : Nat} (h : OnLine l x n) (k : OnLine l x m) : n = m := by
  rcases Nat.lt_trichotomy n m with hlt | heq | hgt
  · have := h.before k.lt hlt
    have := k.ge
    omega
  · exact heq
  · have := k.before h.lt hgt
    have := h.ge
    omega
theorem onLine_ex (l : List UInt8) (x : Nat) (hx : x ≤ l.length) : ∃ n, OnLine l x n := by
  have key : ∀ k, k ≤ nLines l → (∃ n, OnLine l x n) ∨ (∀ m, m < k → startN l m + (lineN l m).length < x) := by
    intro k
    induction k with
    | zero => intro _; exact .inr (fun m h => by omega)
    | succ k ih =>
      intro hk
      rcases ih (by omega) with h | h
      · exact .inl h
      · by_cases hle : x ≤ startN l k + (lineN l k).length
        · refine .inl ⟨k, by omega, ?_, hle⟩
          cases k with
          | zero => rw [startN_zero]; omega
          | succ j =>
            have h1 := h j (by omega)
            have h2 := startN_next l (n := j) (by omega)
            omega
        · refine .inr (fun m hm => ?_)
          by_cases hmk : m = k
          · subst hmk; omega
          · exact h m (by omega)
  rcases key (nLines l) (Nat.le_refl _) with h | h
  · exact h
  · have hp := nLines_pos l
    have h1 := h (nLines l - 1) (by omega)
    have h2 := startN_last l (n := nLines l - 1) (by omega)
    omega

/-! ### what Offset and Place answer -/
def offP (l : List UInt8) (ln u : Int) : Nat × Nat := if 0 ≤ ln ∧ ln < (nLines l : Nat) then (match offL (lineN l ln.toNat) u with | some k => (startN l ln.toNat + k, 0) | none => (0, 51)) else (0, 51)
open Classical in
noncomputable def lineIx (l : List UInt8) (x : Nat) : Nat := if h : ∃ n, OnLine l x n then h.choose else 0
theorem lineIx_eq {l : List UInt8} {x n : Nat} (h : OnLine l x n) : lineIx l x = n := by
  unfold lineIx
  rw [dif_pos ⟨n, h⟩]
  exact (Exists.choose_spec (⟨n, h⟩ : ∃ n, OnLine l x n)).uniq h
/-- The line, the unit, the error. -/
noncomputable def placeP (l : List UInt8) (x : Int) : Nat × Nat × Nat :=
  if 0 ≤ x ∧ x ≤ (l.length : Nat) then (match unitAt (lineN l (lineIx l x.toNat)) (x - (startN l (lineIx l x.toNat) : Nat)) with | some u => (lineIx l x.toNat, u, 0) | none => (0, 0, 51)) else (0, 0, 51)
theorem placeP_on {l : List UInt8} {x n : Nat} (h : OnLine l x n) (hx : x ≤ l.length) : placeP l x = match unitAt (lineN l n) ((x - startN l n : Nat) : Int) with | some u => (n, u, 0) | none => (0, 0, 51) := by
  unfold placeP
  rw [if_pos ⟨by omega, by omega⟩, Int.toNat_natCast, lineIx_eq h, show (x : Int) - (startN l n : Nat) = ((x - startN l n : Nat) : Int) by have := h.ge; omega]
theorem placeP_off {l : List UInt8} {x : Int} (h : x < 0 ∨ (l.length : Int) < x) : placeP l x = (0, 0, 51) := by
  unfold placeP
  rw [if_neg (by omega)]

/-! ### lines of a right text are right -/
theorem split_right (A r : List UInt8) (hv : validD (A ++ 10 :: r) = true) : validD A = true ∧ validD r = true := by
  have hst : startAt (A ++ 10 :: r) (A.length : Nat) := by
    refine ⟨by omega, by simp; omega, fun _ => ?_⟩
    rw [Int.toNat_natCast]
    simp [contB]
  obtain ⟨_, a, b⟩ := (unitAt_start (A ++ 10 :: r) hv (A.length : Nat)).1 hst
  rw [Int.toNat_natCast] at a b
  rw [List.take_left'  rfl] at a
  rw [List.drop_left' rfl, validD_cons _ _ (by decide)] at b
  exact ⟨a, b⟩
theorem line_right (l : List UInt8) (hv : validD l = true) : ∀ n, n < nLines l → validD (lineN l n) = true := by
  revert hv
  induction l using line_ind with
  | h l ih =>
    intro hv n hn
    unfold nLines at hn
    unfold lineN
    rw [splitN_eq] at hn ⊢
    have h1 : validD (lineOf l) = true ∧ ∀ r, restOf l = some r → validD r = true := by
      cases hr : restOf l with
      | none => rw [restOf_none hr]; exact ⟨hv, fun r h => by cases h⟩
      | some r =>
        have hsp := line_split l
        rw [hr] at hsp
        have := split_right (lineOf l) r (by rw [← hsp]; exact hv)
        exact ⟨this.1, fun r' h => by cases h; exact this.2⟩
    cases n with
    | zero => exact h1.1
    | succ n =>
      cases hr : restOf l with
      | none => rw [hr] at hn; simp at hn
      | some r =>
        rw [hr] at hn
        simp only [List.length_cons, Nat.add_lt_add_iff_right] at hn
        exact ih r hr (h1.2 r hr) n hn

/-! ### there and back -/
theorem unit_back (l : List UInt8) (x : Int) (u : Nat) (h : unitAt l x = some u) : offL l u = some x.toNat ∧ 0 ≤ x ∧ x ≤ l.length ∧ u ≤ unitsL l := by
  rw [unitAt_find] at h
  cases hf : findF (plB l) x with
  | none => rw [hf] at h; cases h
  | some i =>
    rw [hf] at h
    simp only [Option.map_some, Option.some.injEq] at h
    obtain ⟨hi, hx⟩ := findF_lt hf
    have hlB := plB_length l
    have hlU := plU_length l
    have hu : findF (plU l) ((u : Nat) : Int) = some i := by rw [← h]; exact findF_sorted (plU_sorted l) (by omega)
    refine ⟨by rw [offL_find, hu]; simp only [Option.map_some]; congr 1; omega, by omega, ?_, ?_⟩
    · have := psum_le' (wds l) 0 ((plB l).getD i 0) (by rw [getD_get hi]; exact List.getElem_mem hi)
      rw [show sumL (wds l) = l.length from scals_sum l] at this
      omega
    · have := psum_le' (uns l) 0 ((plU l).getD i 0) (by rw [getD_get (by omega)]; exact List.getElem_mem _)
      rw [show sumL (uns l) = unitsL l from rfl] at this
      omega
theorem unit_order (l : List UInt8) (x y : Int) (u v : Nat) (h : unitAt l x = some u) (k : unitAt l y = some v) : (u < v ↔ x < y) := by
  rw [unitAt_find] at h k
  cases hf : findF (plB l) x with
  | none => rw [hf] at h; cases h
  | some i =>
    cases hg : findF (plB l) y with
    | none => rw [hg] at k; cases k
    | some j =>
      rw [hf] at h
      rw [hg] at k
      simp only [Option.map_some, Option.some.injEq] at h k
      obtain ⟨hi, hx⟩ := findF_lt hf
      obtain ⟨hj, hy⟩ := findF_lt hg
      have hlB := plB_length l
      have hlU := plU_length l
      rcases Nat.lt_trichotomy i j with hlt | heq | hgt
      · have a := sorted_lt (plB_sorted l) hj hlt
        have b := sorted_lt (plU_sorted l) (by omega) hlt
        constructor <;> intro _ <;> omega
      · subst heq
        constructor <;> intro _ <;> omega
      · have a := sorted_lt (plB_sorted l) hi hgt
        have b := sorted_lt (plU_sorted l) (by omega) hgt
        constructor <;> intro _ <;> omega
/-- A place is that of its offset. -/
theorem place_back (l : List UInt8) (x : Int) (n u : Nat) (h : placeP l x = (n, u, 0)) : offP l n u = (x.toNat, 0) ∧ 0 ≤ x ∧ x ≤ (l.length : Nat) := by
  unfold placeP at h
  split at h
  · rename_i hx
    obtain ⟨k, rfl⟩ : ∃ k : Nat, x = k := ⟨x.toNat, by omega⟩
    obtain ⟨m, hm⟩ := onLine_ex l k (by omega)
    rw [Int.toNat_natCast, lineIx_eq hm] at h
    cases hu : unitAt (lineN l m) ((k : Int) - (startN l m : Nat)) with
    | none => rw [hu] at h; simp at h
    | some v =>
      rw [hu] at h
      simp only [Prod.mk.injEq, and_true] at h
      obtain ⟨rfl, rfl⟩ := h
      obtain ⟨a, b, c, d⟩ := unit_back _ _ _ hu
      have hlt := hm.lt
      have hge := hm.ge
      refine ⟨?_, hx⟩
      unfold offP
      rw [if_pos ⟨by omega, by omega⟩, Int.toNat_natCast, a]
      simp only [Int.toNat_natCast, Prod.mk.injEq, and_true]
      omega
  · simp at h
/-- Of two offsets the greater one has the greater place. -/
theorem place_order (l : List UInt8) (x y : Int) (n u m v : Nat) (h : placeP l x = (n, u, 0)) (k : placeP l y = (m, v, 0)) : ((n < m ∨ n = m ∧ u < v) ↔ x < y) := by
  have hx := (place_back l x n u h).2
  have hy := (place_back l y m v k).2
  obtain ⟨a, rfl⟩ : ∃ a : Nat, x = a := ⟨x.toNat, by omega⟩
  obtain ⟨b, rfl⟩ : ∃ b : Nat, y = b := ⟨y.toNat, by omega⟩
  obtain ⟨p, hp⟩ := onLine_ex l a (by omega)
  obtain ⟨q, hq⟩ := onLine_ex l b (by omega)
  rw [placeP_on hp (by omega)] at h
  rw [placeP_on hq (by omega)] at k
  cases hu : unitAt (lineN l p) ((a - startN l p : Nat) : Int) with
  | none => rw [hu] at h; simp at h
  | some u' =>
    cases hv : unitAt (lineN l q) ((b - startN l q : Nat) : Int) with
    | none => rw [hv] at k; simp at k
    | some v' =>
      rw [hu] at h
      rw [hv] at k
      simp only [Prod.mk.injEq, and_true] at h k
      obtain ⟨rfl, rfl⟩ := h
      obtain ⟨rfl, rfl⟩ := k
      have g1 := hp.ge
      have g2 := hq.ge
      rcases Nat.lt_trichotomy p q with hlt | heq | hgt
      · have := hp.before hq.lt hlt
        constructor <;> intro _ <;> omega
      · subst heq
        have := unit_order (lineN l p) _ _ _ _ hu hv
        constructor <;> intro hh <;> omega
      · have := hq.before hp.lt hgt
        constructor <;> intro hh <;> omega

/-! ### one behind the other -/
theorem split_join (a b : List UInt8) : splitN (a ++ 10 :: b) = splitN a ++ splitN b := by
  induction a with
  | nil => simp [splitN]
  | cons c t ih =>
    rw [List.cons_append]
    simp only [splitN]
    by_cases h : c = 10
    · rw [if_pos h, if_pos h, ih]; rfl
    · rw [if_neg h, if_neg h, ih]
      have hne := splitN_ne t
      cases hs : splitN t with
      | nil => exact absurd hs hne
      | cons x r => rfl
theorem nlF_join (a b : List UInt8) : ∀ k, nlF k (a ++ 10 :: b) = nlF k a ++ (k + a.length + 1) :: nlF (k + a.length + 1) b := by
  induction a with
  | nil => intro k; simp [nlF]
  | cons c t ih =>
    intro k
    rw [List.cons_append]
    simp only [nlF, ih]
    rw [show k + 1 + t.length + 1 = k + (c :: t).length + 1 by simp; omega]
    split <;> rfl
theorem starts_join (a b : List UInt8) : startsL (a ++ 10 :: b) = startsL a ++ (startsL b).map (a.length + 1 + ·) := by
  unfold startsL
  have := nlF_shift b (a.length + 1) 0
  rw [Nat.add_zero] at this
  rw [nlF_join, List.map_cons, Nat.zero_add, Nat.add_zero, this]
  rfl
theorem nLines_join (a b : List UInt8) : nLines (a ++ 10 :: b) = nLines a + nLines b := by simp [nLines, split_join]
theorem lineN_joinR (a b : List UInt8) (n : Nat) : lineN (a ++ 10 :: b) (n + nLines a) = lineN b n := by
  unfold lineN nLines
  rw [split_join, List.getD_eq_getElem?_getD, List.getElem?_append_right (by omega), List.getD_eq_getElem?_getD, Nat.add_sub_cancel]
theorem lineN_joinL (a b : List UInt8) (n : Nat) (h : n < nLines a) : lineN (a ++ 10 :: b) n = lineN a n := by
  unfold lineN
  unfold nLines at h
  rw [split_join, List.getD_eq_getElem?_getD, List.getElem?_append_left h, List.getD_eq_getElem?_getD]
theorem startN_joinR (a b : List UInt8) (n : Nat) (h : n < nLines b) : startN (a ++ 10 :: b) (n + nLines a) = a.length + 1 + startN b n := by
  have h1 : n < (startsL b).length := by rw [starts_length]; exact h
  have h2 : (startsL a).length = nLines a := starts_length a
  unfold startN
  rw [starts_join, List.getD_eq_getElem?_getD, List.getElem?_append_right (by omega), h2, Nat.add_sub_cancel, List.getElem?_map, List.getElem?_eq_getElem h1, List.getD_eq_getElem?_getD, List.getElem?_eq_getElem h1]
  rfl
theorem startN_joinL (a b : List UInt8) (n : Nat) (h : n < nLines a) : startN (a ++ 10 :: b) n = startN a n := by
  have h2 : (startsL a).length = nLines a := starts_length a
  unfold startN
  rw [starts_join, List.getD_eq_getElem?_getD, List.getElem?_append_left (by omega), List.getD_eq_getElem?_getD]
theorem off_joinR (a b : List UInt8) (n u : Int) (h0 : 0 ≤ n) : offP (a ++ 10 :: b) (n + (nLines a : Nat)) u = match offP b n u with | (k, 0) => (a.length + 1 + k, 0) | (k, e) => (k, e) := by
  obtain ⟨m, rfl⟩ : ∃ m : Nat, n = m := ⟨n.toNat, by omega⟩
  unfold offP
  rw [nLines_join]
  by_cases h : m < nLines b
  · rw [if_pos ⟨by omega, by omega⟩, if_pos ⟨by omega, by omega⟩, show ((m : Int) + (nLines a : Nat)).toNat = m + nLines a by omega, Int.toNat_natCast, lineN_joinR, startN_joinR a b m h]
    cases offL (lineN b m) u with
    | none => rfl
    | some k => simp only [Prod.mk.injEq, and_true]; omega
  · rw [if_neg (by omega), if_neg (by omega)]
    rfl
theorem off_joinL (a b : List UInt8) (n u : Int) (k : Nat) (h : offP a n u = (k, 0)) : offP (a ++ 10 :: b) n u = (k, 0) := by
  unfold offP at h ⊢
  rw [nLines_join]
  split at h
  · rename_i hn
    obtain ⟨m, rfl⟩ : ∃ m : Nat, n = m := ⟨n.toNat, by omega⟩
    rw [Int.toNat_natCast] at h
    rw [if_pos ⟨by omega, by omega⟩, Int.toNat_natCast, lineN_joinL a b m (by omega), startN_joinL a b m (by omega)]
    exact h
  · simp at h
end Go.Proofs.YtadkjeefiacdbaaDoor
