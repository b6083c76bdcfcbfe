/-
  PLAIN LEAN, no program in sight: the lines of a text, where each begins, places. Conditions: none.
-/
import Derived.Test.YtadkjeefiacdbaaDoorUtf5
set_option linter.unusedVariables false
set_option linter.unusedSimpArgs false
namespace Go.Proofs.YtadkjeefiacdbaaDoor
open Go.Lib

/-- A text's lines. -/
def splitN : List UInt8 → List (List UInt8)
  | [] => [[]]
  | c :: t => if c = 10 then [] :: splitN t else (match splitN t with | h :: r => (c :: h) :: r | [] => [[c]])
/-- Where lines begin behind the first one. -/
def nlF : Nat → List UInt8 → List Nat
  | _, [] => []
  | a, c :: t => if c = 10 then (a + 1) :: nlF (a + 1) t else nlF (a + 1) t
def startsL (l : List UInt8) : List Nat := 0 :: nlF 0 l
theorem splitN_ne (l : List UInt8) : splitN l ≠ [] := by
  cases l with
  | nil => simp [splitN]
  | cons c t => simp only [splitN]; split <;> (try split) <;> simp
/-- The lines follow from the line's first bytes. -/
def lineOf : List UInt8 → List UInt8
  | [] => []
  | c :: t => if c = 10 then [] else c :: lineOf t
def restOf : List UInt8 → Option (List UInt8)
  | [] => none
  | c :: t => if c = 10 then some t else restOf t
theorem splitN_eq : ∀ l : List UInt8, splitN l = lineOf l :: (match restOf l with | some r => splitN r | none => [])
  | [] => rfl
  | c :: t => by
    have ih := splitN_eq t
    simp only [splitN, lineOf, restOf]
    by_cases h : c = 10
    · rw [if_pos h, if_pos h, if_pos h]
    · rw [if_neg h, if_neg h, if_neg h, ih]
theorem line_split : ∀ l : List UInt8, l = lineOf l ++ (match restOf l with | some r => 10 :: r | none => [])
  | [] => rfl
  | c :: t => by
    have ih := line_split t
    simp only [lineOf, restOf]
    by_cases h : c = 10
    · rw [if_pos h, if_pos h, h]; rfl
    · rw [if_neg h, if_neg h, List.cons_append, ← ih]
theorem lineOf_no : ∀ l : List UInt8, ∀ c ∈ lineOf l, c ≠ 10
  | [], c, h => by cases h
  | d :: t, c, h => by
    simp only [lineOf] at h
    by_cases hd : d = 10
    · rw [if_pos hd] at h; cases h
    · rw [if_neg hd] at h
      rcases List.mem_cons.1 h with rfl | h
      · exact hd
      · exact lineOf_no t c h
theorem lineOf_le (l : List UInt8) : (lineOf l).length ≤ l.length := by
  have := congrArg List.length (line_split l)
  rw [List.length_append] at this
  omega
theorem restOf_len {l r : List UInt8} (h : restOf l = some r) : (lineOf l).length + 1 + r.length = l.length := by
  have := congrArg List.length (line_split l)
  rw [h, List.length_append, List.length_cons] at this
  omega
theorem restOf_drop : ∀ {l r : List UInt8}, restOf l = some r → r = l.drop ((lineOf l).length + 1)
  | [], r, h => by cases h
  | c :: t, r, h => by
    simp only [restOf] at h
    by_cases hc : c = 10
    · rw [if_pos hc] at h
      cases h
      simp [lineOf, hc]
    · rw [if_neg hc] at h
      have := restOf_drop h
      simp only [lineOf, if_neg hc, List.length_cons, List.drop_succ_cons]
      exact this
theorem restOf_none {l : List UInt8} (h : restOf l = none) : lineOf l = l := by
  have h1 := line_split l
  rw [h, List.append_nil] at h1
  exact h1.symm
theorem nlF_eq : ∀ (l : List UInt8) (a : Nat), nlF a l = (match restOf l with | some r => (a + (lineOf l).length + 1) :: nlF (a + (lineOf l).length + 1) r | none => [])
  | [], a => rfl
  | c :: t, a => by
    have ih := nlF_eq t (a + 1)
    simp only [nlF, restOf, lineOf]
    by_cases h : c = 10
    · rw [if_pos h, if_pos h, if_pos h]; simp
    · rw [if_neg h, if_neg h, if_neg h, ih]
      cases restOf t with
      | none => rfl
      | some r => simp only [List.length_cons]; rw [show a + 1 + (lineOf t).length + 1 = a + ((lineOf t).length + 1) + 1 by omega]
/-- Induction along the lines. -/
theorem line_ind {C : List UInt8 → Prop} (h : ∀ l, (∀ r, restOf l = some r → C r) → C l) : ∀ l, C l := by
  intro l
  induction hn : l.length using Nat.strongRecOn generalizing l with
  | _ n ih => exact h l (fun r hr => ih r.length (by have := restOf_len hr; omega) r rfl)
theorem nlF_shift : ∀ (l : List UInt8) (a b : Nat), nlF (a + b) l = (nlF b l).map (a + ·)
  | [], _, _ => rfl
  | c :: t, a, b => by
    simp only [nlF]
    rw [Nat.add_assoc a b 1, nlF_shift t a (b + 1)]
    split <;> simp
theorem starts_step (l : List UInt8) : startsL l = 0 :: (match restOf l with | some r => (startsL r).map ((lineOf l).length + 1 + ·) | none => []) := by
  unfold startsL
  rw [nlF_eq]
  cases restOf l with
  | none => rfl
  | some r =>
    have := nlF_shift r ((lineOf l).length + 1) 0
    simp only [Nat.add_zero] at this
    simp only [Nat.zero_add, List.map_cons, Nat.add_zero, this]
theorem starts_length (l : List UInt8) : (startsL l).length = (splitN l).length := by
  induction l using line_ind with
  | h l ih =>
    rw [starts_step, splitN_eq]
    cases hr : restOf l with
    | none => rfl
    | some r => simp only [List.length_cons, List.length_map, ih r hr]
/-- The n-th line stands where it begins. -/
theorem line_at (l : List UInt8) : ∀ n, n < (splitN l).length → (splitN l).getD n [] = lineOf (l.drop ((startsL l).getD n 0)) ∧ (startsL l).getD n 0 + ((splitN l).getD n []).length ≤ l.length := by
  induction l using line_ind with
  | h l ih =>
    intro n hn
    rw [starts_step, splitN_eq] at *
    cases n with
    | zero => exact ⟨rfl, by simpa using lineOf_le l⟩
    | succ n =>
      cases hr : restOf l with
      | none => rw [hr] at hn; simp at hn
      | some r =>
        rw [hr] at hn
        simp only [List.length_cons, Nat.add_lt_add_iff_right] at hn
        obtain ⟨h1, h2⟩ := ih r hr n hn
        have hns : n < (startsL r).length := by rw [starts_length]; exact hn
        have hl := restOf_len hr
        simp only [List.getD_cons_succ]
        have e : ((startsL r).map ((lineOf l).length + 1 + ·)).getD n 0 = (lineOf l).length + 1 + (startsL r).getD n 0 := by
          rw [List.getD_eq_getElem?_getD, List.getElem?_map, List.getElem?_eq_getElem hns, List.getD_eq_getElem?_getD, List.getElem?_eq_getElem hns]
          rfl
        rw [e, h1]
        refine ⟨?_, ?_⟩
        · rw [restOf_drop hr, List.drop_drop]
        · rw [h1] at h2
          omega
theorem starts_sorted (l : List UInt8) : (startsL l).Pairwise (· < ·) := by
  induction l using line_ind with
  | h l ih =>
    rw [starts_step]
    cases hr : restOf l with
    | none => simp
    | some r =>
      simp only [List.pairwise_cons]
      refine ⟨fun y hy => ?_, ?_⟩
      · obtain ⟨x, _, rfl⟩ := List.mem_map.1 hy
        omega
      · rw [List.pairwise_map]
        exact (ih r hr).imp (fun h => by omega)
/-- Behind the n-th line's end the next one begins, a byte further. -/
theorem starts_next (l : List UInt8) : ∀ n, n < (splitN l).length →
    (n + 1 < (splitN l).length → (startsL l).getD (n + 1) 0 = (startsL l).getD n 0 + ((splitN l).getD n []).length + 1) ∧
    (n + 1 = (splitN l).length → l.length = (startsL l).getD n 0 + ((splitN l).getD n []).length) := by
  induction l using line_ind with
  | h l ih =>
    intro n hn
    rw [starts_step, splitN_eq] at *
    cases hr : restOf l with
    | none =>
      rw [hr] at hn
      simp at hn
      subst hn
      have := restOf_none hr
      refine ⟨fun h => by simp at h, fun _ => by simp [this]⟩
    | some r =>
      rw [hr] at hn
      have hl := restOf_len hr
      have hlen := starts_length r
      have hmap : ∀ k, k < (startsL r).length → ((startsL r).map ((lineOf l).length + 1 + ·)).getD k 0 = (lineOf l).length + 1 + (startsL r).getD k 0 := by
        intro k hk
        rw [List.getD_eq_getElem?_getD, List.getElem?_map, List.getElem?_eq_getElem hk, List.getD_eq_getElem?_getD, List.getElem?_eq_getElem hk]
        rfl
      cases n with
      | zero =>
        simp only [List.getD_cons_succ, List.getD_cons_zero, List.length_cons, Nat.zero_add]
        have h0 : 0 < (splitN r).length := List.length_pos_iff.2 (splitN_ne r)
        refine ⟨fun _ => ?_, fun h => by omega⟩
        rw [hmap 0 (by omega)]
        simp [startsL]
      | succ n =>
        simp only [List.length_cons, Nat.add_lt_add_iff_right] at hn
        obtain ⟨h1, h2⟩ := ih r hr n hn
        simp only [List.getD_cons_succ, List.length_cons]
        refine ⟨fun h => ?_, fun h => ?_⟩
        · rw [hmap (n + 1) (by omega), hmap n (by omega), h1 (by omega)]
          omega
        · rw [hmap n (by omega)]
          have := h2 (by omega)
          omega
end Go.Proofs.YtadkjeefiacdbaaDoor
