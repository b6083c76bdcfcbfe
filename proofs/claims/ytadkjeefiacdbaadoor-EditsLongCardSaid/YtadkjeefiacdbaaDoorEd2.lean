/-
  PLAIN LEAN, no program in sight: a place hangs on what stands ahead of it; the edit between two texts, there and back. Conditions: none.
-/
import Derived.Test.YtadkjeefiacdbaaDoorEd1
set_option linter.unusedVariables false
set_option linter.unusedSimpArgs false
namespace Go.Proofs.YtadkjeefiacdbaaDoor
open Go.Lib

theorem lineOf_app : ∀ (p q : List UInt8), (∀ c ∈ p, c ≠ 10) → lineOf (p ++ q) = p ++ lineOf q
  | [], q, _ => rfl
  | c :: p, q, h => by
    have hc : c ≠ 10 := h c (by simp)
    have ih := lineOf_app p q fun d hd => h d (by simp [hd])
    show lineOf (c :: (p ++ q)) = _
    simp only [lineOf, if_neg hc, ih, List.cons_append]
theorem nlF_app : ∀ (x y : List UInt8) (a : Nat), nlF a (x ++ y) = nlF a x ++ nlF (a + x.length) y
  | [], y, a => by simp [nlF]
  | c :: x, y, a => by
    have ih := nlF_app x y (a + 1)
    have e : a + 1 + x.length = a + (x.length + 1) := by omega
    rw [e] at ih
    rw [List.cons_append, List.length_cons]
    simp only [nlF, ih]
    split <;> simp
/-- A place hangs on what stands ahead of it. -/
theorem placeP_take (l : List UInt8) (hv : validD l = true) (k : Nat) (h : startAt l k) : placeP l k = ((nLines (l.take k)) - 1, unitsL (lineN (l.take k) (nLines (l.take k) - 1)), 0) := by
  obtain ⟨hk, hc⟩ := (start_nat l k).1 h
  obtain ⟨x, hx⟩ : ∃ x, x = l.take k := ⟨_, rfl⟩
  obtain ⟨y, hy⟩ : ∃ y, y = l.drop k := ⟨_, rfl⟩
  have hl : l = x ++ y := by rw [hx, hy, List.take_append_drop]
  have hxl : x.length = k := by rw [hx, List.length_take]; omega
  rw [← hx]
  have hp := nLines_pos x
  obtain ⟨m, hm⟩ : ∃ m, m = nLines x - 1 := ⟨_, rfl⟩
  rw [← hm]
  have hlast := startN_last x (n := m) (by omega)
  have hat := (lineN_at x (n := m) (by omega)).1
  have hsx := startN x m
  have e1 : lineN x m = x.drop (startN x m) := by
    have h1 := line_split (x.drop (startN x m))
    rw [← hat] at h1
    have h2 := congrArg List.length h1
    rw [List.length_drop, List.length_append] at h2
    cases hr : restOf (x.drop (startN x m)) with
    | none =>
      rw [hr, List.append_nil] at h1
      exact h1.symm
    | some r =>
      rw [hr] at h2
      simp only [List.length_cons] at h2
      omega
  have hs : startsL l = startsL x ++ nlF x.length y := by
    unfold startsL
    rw [hl, nlF_app, Nat.zero_add]
    rfl
  have hnl : nLines x ≤ nLines l := by
    unfold nLines
    rw [← starts_length, ← starts_length, hs, List.length_append]
    omega
  have hst : startN l m = startN x m := by
    unfold startN
    rw [hs, List.getD_eq_getElem?_getD, List.getElem?_append_left (by rw [starts_length]; show m < nLines x; omega), List.getD_eq_getElem?_getD]
  have hno : ∀ c ∈ x.drop (startN x m), c ≠ 10 := by
    rw [← e1, hat]
    exact lineOf_no _
  have hln : lineN l m = lineN x m ++ lineOf y := by
    rw [(lineN_at l (n := m) (by omega)).1, hst, hl, List.drop_append_of_le_length (by omega), lineOf_app _ _ hno, e1]
  have hon : OnLine l k m := ⟨by omega, by rw [hst]; omega, by rw [hst, hln, List.length_append]; omega⟩
  rw [placeP_on hon hk, hst, show k - startN x m = (lineN x m).length by omega]
  have hvl : validD (lineN l m) = true := line_right l hv m (by omega)
  have hstart : startAt (lineN l m) ((lineN x m).length : Nat) := by
    rw [start_nat]
    refine ⟨by rw [hln, List.length_append]; omega, fun hlt => ?_⟩
    have hlt2 : k < l.length := by
      have := (lineN_at l (n := m) (by omega)).2
      rw [hst] at this
      omega
    have e2 : (lineN l m).getD (lineN x m).length 0 = l.getD k 0 := by
      have hsp := line_split (l.drop (startN l m))
      rw [← (lineN_at l (n := m) (by omega)).1] at hsp
      rw [show k = startN l m + (lineN x m).length by rw [hst]; omega, ← getD_drop', hsp, List.getD_eq_getElem?_getD, List.getD_eq_getElem?_getD, List.getElem?_append_left hlt]
    rw [e2]
    exact hc hlt2
  rw [((unitAt_start _ hvl _).1 hstart).1, Int.toNat_natCast]
  have e3 : (lineN l m).take (lineN x m).length = lineN x m := by
    rw [hln, List.take_left']
    rfl
  simp only [e3]
theorem placeP_same (a b : List UInt8) (ha : validD a = true) (hb : validD b = true) (n : Nat) (h : a.take n = b.take n) (sa : startAt a n) (sb : startAt b n) : placeP a n = placeP b n := by
  rw [placeP_take a ha n sa, placeP_take b hb n sb, h]

/-- The edit between two texts. -/
noncomputable def betE (a b : List UInt8) : EdL := ⟨((placeP a (begN a b : Nat)).1 : Nat), ((placeP a (begN a b : Nat)).2.1 : Nat), ((placeP a ((a.length - finR a b : Nat) : Int)).1 : Nat), ((placeP a ((a.length - finR a b : Nat) : Int)).2.1 : Nat), midL a b⟩
theorem place_off (a : List UInt8) (ha : validD a = true) (k : Nat) (h : startAt a k) : offP a ((placeP a k).1 : Nat) ((placeP a k).2.1 : Nat) = (k, 0) := by
  have e := placeP_take a ha k h
  have := (place_back a k _ _ e).1
  rw [e]
  rwa [Int.toNat_natCast] at this
theorem bet_find (a b : List UInt8) (ha : validD a = true) (hb : validD b = true) : edFind a (betE a b) = (begN a b, a.length - finR a b, 0) := by
  have hl := finR_le a b
  have h1 := place_off a ha _ (beg_start a b ha)
  have h2 := place_off a ha _ (fin_start a b ha)
  unfold edFind
  rw [if_pos ⟨ha, midL_right a b ha hb⟩]
  show (if (offP a ((placeP a (begN a b : Nat)).1 : Nat) ((placeP a (begN a b : Nat)).2.1 : Nat)).2 = 0 ∧ (offP a ((placeP a ((a.length - finR a b : Nat) : Int)).1 : Nat) ((placeP a ((a.length - finR a b : Nat) : Int)).2.1 : Nat)).2 = 0 then
    (if (offP a ((placeP a ((a.length - finR a b : Nat) : Int)).1 : Nat) ((placeP a ((a.length - finR a b : Nat) : Int)).2.1 : Nat)).1 < (offP a ((placeP a (begN a b : Nat)).1 : Nat) ((placeP a (begN a b : Nat)).2.1 : Nat)).1 then (0, 0, 61) else ((offP a ((placeP a (begN a b : Nat)).1 : Nat) ((placeP a (begN a b : Nat)).2.1 : Nat)).1, (offP a ((placeP a ((a.length - finR a b : Nat) : Int)).1 : Nat) ((placeP a ((a.length - finR a b : Nat) : Int)).2.1 : Nat)).1, 0)) else (0, 0, 51)) = _
  rw [h1, h2]
  simp only [and_self, if_true]
  rw [if_neg (by omega)]
theorem bet_one (a b : List UInt8) (ha : validD a = true) (hb : validD b = true) (hsz : b.length ≤ 16384) : edOne a (betE a b) = (b, begN a b, a.length - finR a b, 0) := by
  have hf := bet_find a b ha hb
  have hm := between_makes a b
  have hl := finR_le a b
  have hlen : (midL a b).length = b.length - finR a b - begN a b := by
    unfold midL
    rw [List.length_drop, List.length_take]
    omega
  unfold edOne
  rw [hf]
  show (if (0 : Nat) = 0 then (if 16384 + (a.length - finR a b - begN a b) < a.length + (midL a b).length then ([], 0, 0, 73) else (edText a (midL a b) (begN a b) (a.length - finR a b), begN a b, a.length - finR a b, 0)) else ([], 0, 0, 0)) = _
  rw [if_pos rfl, if_neg (by omega), hm]
/-- There and back. -/
theorem bet_apply (a b : List UInt8) (ha : validD a = true) (hb : validD b = true) (hsz : b.length ≤ 16384) : applyL a [betE a b] = (b, 0) := by
  have h := bet_one a b ha hb hsz
  unfold applyL
  rw [if_pos ha, applyGo_ok (by rw [h]), h]
  rfl
theorem bet_from (a b : List UInt8) (ha : validD a = true) (hb : validD b = true) : placeP b (begN b a : Nat) = placeP a (begN a b : Nat) := by
  rw [begN_comm b a]
  refine placeP_same b a hb ha _ (begN_same a b).symm ?_ (beg_start a b ha)
  have := beg_start b a hb
  rwa [begN_comm b a] at this
theorem bet_empty (a b : List UInt8) (ha : validD a = true) (hb : validD b = true) : a = b ↔ (placeP a (begN a b : Nat) = placeP a ((a.length - finR a b : Nat) : Int) ∧ midL a b = []) := by
  have hl := finR_le a b
  constructor
  · intro h
    subst h
    have h1 := begN_self a ha
    have h2 : a.length - finR a a = a.length := by omega
    rw [h1, h2]
    refine ⟨rfl, ?_⟩
    unfold midL
    rw [h1, h2, List.take_length, List.drop_length]
  · rintro ⟨h1, h2⟩
    have hm := between_makes a b
    have o1 := place_off a ha _ (beg_start a b ha)
    have o2 := place_off a ha _ (fin_start a b ha)
    rw [h1, o2] at o1
    have e : a.length - finR a b = begN a b := by simpa using o1
    rw [h2, e] at hm
    unfold edText at hm
    rw [List.append_nil, List.take_append_drop] at hm
    exact hm
end Go.Proofs.YtadkjeefiacdbaaDoor
