/-
  PLAIN LEAN, no program in sight: the scalars of a text of bytes, their widths and units; the places of units. Conditions: none.
-/
import Derived.Lib.ValidLaws
import Derived.Lib.SpaceUEq
import Derived.Lib.QuoteLoop
set_option linter.unusedVariables false
namespace Go.Proofs.YtadkjeefiacdbaaDoor
open Go.Lib

def unsOf (r : Nat) : Nat := if 65536 ≤ r then 2 else 1
/-- The scalars that a range over a text yields: of each its width and its units. -/
def scalsF : Nat → List UInt8 → List (Nat × Nat)
  | 0, _ => []
  | f + 1, l => if l = [] then [] else ((decodeL l).2, unsOf (decodeL l).1) :: scalsF f (l.drop (decodeL l).2)
def scals (l : List UInt8) : List (Nat × Nat) := scalsF l.length l
def sumL (l : List Nat) : Nat := l.foldr (· + ·) 0
@[simp] theorem sumL_nil : sumL [] = 0 := rfl
@[simp] theorem sumL_cons (a : Nat) (l : List Nat) : sumL (a :: l) = a + sumL l := rfl
theorem sumL_append (a b : List Nat) : sumL (a ++ b) = sumL a + sumL b := by
  induction a with
  | nil => simp
  | cons x a ih => simp [ih, Nat.add_assoc]

theorem len_pos {l : List UInt8} (h : l ≠ []) : 0 < l.length := List.length_pos_iff.2 h

theorem scalsF_nil : ∀ n, scalsF n [] = []
  | 0 => rfl
  | _ + 1 => by simp [scalsF]
theorem scalsF_fuel : ∀ (n m : Nat) (l : List UInt8), l.length ≤ n → l.length ≤ m → scalsF n l = scalsF m l
  | 0, m, l, hn, _ => by
    have : l = [] := List.eq_nil_of_length_eq_zero (by omega)
    subst this
    rw [scalsF_nil, scalsF_nil]
  | n + 1, 0, l, _, hm => by
    have : l = [] := List.eq_nil_of_length_eq_zero (by omega)
    subst this
    rw [scalsF_nil, scalsF_nil]
  | n + 1, m + 1, l, hn, hm => by
    unfold scalsF
    by_cases hne : l = []
    · simp [hne]
    · have hw := decodeL_width l
      have hl := len_pos hne
      rw [if_neg hne, if_neg hne, scalsF_fuel n m (l.drop (decodeL l).2) (by rw [List.length_drop]; omega) (by rw [List.length_drop]; omega)]
theorem scals_nil : scals [] = [] := rfl
theorem scals_step (l : List UInt8) (hne : l ≠ []) : scals l = ((decodeL l).2, unsOf (decodeL l).1) :: scals (l.drop (decodeL l).2) := by
  have hw := decodeL_width l
  obtain ⟨n, hn⟩ : ∃ n, l.length = n + 1 := ⟨l.length - 1, by have := len_pos hne; omega⟩
  unfold scals
  rw [hn]
  show (if l = [] then _ else _) = _
  rw [if_neg hne, scalsF_fuel n (l.drop (decodeL l).2).length _ (by rw [List.length_drop]; omega) (Nat.le_refl _)]

/-- Induction along the scalars. -/
theorem scal_ind {C : List UInt8 → Prop} (h0 : C []) (h1 : ∀ l, l ≠ [] → C (l.drop (decodeL l).2) → C l) : ∀ l, C l := by
  intro l
  induction hn : l.length using Nat.strongRecOn generalizing l with
  | _ n ih =>
    by_cases hne : l = []
    · subst hne; exact h0
    · have hw := decodeL_width l
      have hl := len_pos hne
      exact h1 l hne (ih _ (by rw [List.length_drop]; omega) _ rfl)

theorem scals_sum (l : List UInt8) : sumL ((scals l).map (·.1)) = l.length := by
  induction l using scal_ind with
  | h0 => rfl
  | h1 l hne ih =>
    rw [scals_step l hne, List.map_cons, sumL_cons, ih, List.length_drop]
    have := decodeL_le l hne
    omega
theorem uns_pos (r : Nat) : 1 ≤ unsOf r ∧ unsOf r ≤ 2 := by unfold unsOf; split <;> omega
theorem scals_pos (l : List UInt8) : ∀ p ∈ scals l, 1 ≤ p.1 ∧ 1 ≤ p.2 ∧ p.2 ≤ 2 := by
  induction l using scal_ind with
  | h0 => intro p hp; cases hp
  | h1 l hne ih =>
    rw [scals_step l hne]
    intro p hp
    rcases List.mem_cons.1 hp with rfl | hp
    · exact ⟨decodeL_width l, (uns_pos _).1, (uns_pos _).2⟩
    · exact ih p hp
/-- How many units a text has. -/
def unitsL (l : List UInt8) : Nat := sumL ((scals l).map (·.2))
theorem unitsL_nil : unitsL [] = 0 := rfl
theorem unitsL_step (l : List UInt8) (hne : l ≠ []) : unitsL l = unsOf (decodeL l).1 + unitsL (l.drop (decodeL l).2) := by
  unfold unitsL
  rw [scals_step l hne]
  rfl
theorem decodeN_units (n b0 b1 b2 b3 : Nat) (hn : 1 ≤ n) (h0 : b0 < 256) : unsOf (decodeN n b0 b1 b2 b3).1 ≤ (decodeN n b0 b1 b2 b3).2 := by
  unfold unsOf
  rcases decodeN_shape n b0 b1 b2 b3 with ⟨c, e⟩ | ⟨c1, c2, c3, cv, e⟩ | ⟨c1, c2, c3, c4, cv, cs, e⟩ | ⟨c1, c2, c3, c4, c5, cv, cw, e⟩ | e
  all_goals (rw [e]; dsimp only; split <;> omega)
theorem unitsL_le (l : List UInt8) : unitsL l ≤ l.length := by
  induction l using scal_ind with
  | h0 => exact Nat.le_refl _
  | h1 l hne ih =>
    rw [unitsL_step l hne]
    rw [List.length_drop] at ih
    have h1 := decodeL_le l hne
    have h2 : unsOf (decodeL l).1 ≤ (decodeL l).2 := by
      rw [decodeL_N]
      exact decodeN_units _ _ _ _ _ (len_pos hne) (UInt8.toNat_lt _)
    omega

/-- The place of a unit, along the scalars. -/
def offS : Nat → Int → List (Nat × Nat) → Option Nat
  | i, u, [] => if u = 0 then some i else none
  | i, u, p :: r => if u ≤ 0 then (if u < 0 then none else some i) else offS (i + p.1) (u - (p.2 : Int)) r
/-- utf.Offset of a right text. -/
def offL (l : List UInt8) (u : Int) : Option Nat := offS 0 u (scals l)

theorem validD_cases (l : List UInt8) (hne : l ≠ []) (hv : validD l = true) : ¬ ((decodeL l).1 = 65533 ∧ (decodeL l).2 = 1) ∧ validD (l.drop (decodeL l).2) = true := by
  rw [validD_step l hne] at hv
  split at hv
  · cases hv
  · exact ⟨‹_›, hv⟩
/-- Induction along the scalars of a right text. -/
theorem right_ind {C : List UInt8 → Prop} (h0 : C []) (h1 : ∀ l, l ≠ [] → ¬ ((decodeL l).1 = 65533 ∧ (decodeL l).2 = 1) → validD (l.drop (decodeL l).2) = true → C (l.drop (decodeL l).2) → C l) :
    ∀ l, validD l = true → C l := by
  intro l
  induction l using scal_ind with
  | h0 => intro _; exact h0
  | h1 l hne ih =>
    intro hv
    obtain ⟨a, b⟩ := validD_cases l hne hv
    exact h1 l hne a b (ih b)

/-! ### a scalar's bytes -/
def contB (b : UInt8) : Bool := b.toNat / 64 == 2
theorem decode_bytes (l : List UInt8) (hne : l ≠ []) (hv : ¬ ((decodeL l).1 = 65533 ∧ (decodeL l).2 = 1)) :
    contB (l.getD 0 0) = false ∧ (∀ j, 0 < j → j < (decodeL l).2 → contB (l.getD j 0) = true) ∧ (decodeL l).2 ≤ 4 := by
  have hl := len_pos hne
  have hc := decodeN_conts l.length (l.getD 0 0).toNat (l.getD 1 0).toNat (l.getD 2 0).toNat (l.getD 3 0).toNat
  rw [← decodeL_N] at hc
  obtain ⟨c2, c3, c4, c5⟩ := hc
  refine ⟨?_, ?_, c5⟩
  · unfold contB
    rw [beq_eq_false_iff_ne]
    intro h
    apply hv
    rw [decodeL_N, decodeN_cont _ _ _ _ _ h]
    exact ⟨rfl, rfl⟩
  · intro j h0 hj
    unfold contB
    rw [beq_iff_eq]
    rcases (show j = 1 ∨ j = 2 ∨ j = 3 by omega) with rfl | rfl | rfl
    · exact (c2 (by omega)).1
    · exact (c3 (by omega)).1
    · exact (c4 (by omega)).1
theorem decodeN_cutn (n n' b0 b1 b2 b3 c1 c2 c3 : Nat) (hn : (decodeN n b0 b1 b2 b3).2 ≤ n') (hv : ¬ ((decodeN n b0 b1 b2 b3).1 = 65533 ∧ (decodeN n b0 b1 b2 b3).2 = 1))
    (e1 : 1 < (decodeN n b0 b1 b2 b3).2 → c1 = b1) (e2 : 2 < (decodeN n b0 b1 b2 b3).2 → c2 = b2) (e3 : 3 < (decodeN n b0 b1 b2 b3).2 → c3 = b3) : decodeN n' b0 c1 c2 c3 = decodeN n b0 b1 b2 b3 := by
  rcases decodeN_shape n b0 b1 b2 b3 with ⟨c, e⟩ | ⟨d1, d2, d3, cv, e⟩ | ⟨d1, d2, d3, d4, cv, cs, e⟩ | ⟨d1, d2, d3, d4, d5, cv, cw, e⟩ | e
  · rw [e, decodeN_ascii _ _ _ _ _ c]
  · rw [e] at hn e1 ⊢
    simp only at hn e1
    have := e1 (by omega)
    subst this
    unfold decodeN
    rw [if_neg (by omega), if_pos (by omega), if_pos (by omega)]
  · rw [e] at hn e1 e2 ⊢
    simp only at hn e1 e2
    have := e1 (by omega)
    subst this
    have := e2 (by omega)
    subst this
    unfold decodeN
    rw [if_neg (by omega), if_neg (by omega), if_pos (by omega), if_pos (by omega)]
  · rw [e] at hn e1 e2 e3 ⊢
    simp only at hn e1 e2 e3
    have := e1 (by omega)
    subst this
    have := e2 (by omega)
    subst this
    have := e3 (by omega)
    subst this
    unfold decodeN
    rw [if_neg (by omega), if_neg (by omega), if_neg (by omega), if_pos (by omega), if_pos (by omega)]
  · rw [e] at hv
    exact absurd ⟨rfl, rfl⟩ hv
/-- Another text that has the scalar's bytes at its head has the scalar. -/
theorem decode_same (l m : List UInt8) (hne : l ≠ []) (hv : ¬ ((decodeL l).1 = 65533 ∧ (decodeL l).2 = 1)) (hlen : (decodeL l).2 ≤ m.length)
    (hs : ∀ j, j < (decodeL l).2 → m.getD j 0 = l.getD j 0) : decodeL m = decodeL l := by
  have hw := decodeL_width l
  rw [decodeL_N m, hs 0 (by omega)]
  rw [decodeL_N l] at hv hlen hs ⊢
  exact decodeN_cutn _ _ _ _ _ _ _ _ _ hlen hv (fun h => by rw [hs 1 h]) (fun h => by rw [hs 2 h]) (fun h => by rw [hs 3 h])
theorem decode_take (l : List UInt8) (k : Nat) (hne : l ≠ []) (hv : ¬ ((decodeL l).1 = 65533 ∧ (decodeL l).2 = 1)) (hk : (decodeL l).2 ≤ k) : decodeL (l.take k) = decodeL l :=
  decode_same l _ hne hv (by rw [List.length_take]; have := decodeL_le l hne; omega) (fun j hj => by rw [getD_takeU _ _ _ (by omega)])
theorem decode_append (l m : List UInt8) (hne : l ≠ []) (hv : ¬ ((decodeL l).1 = 65533 ∧ (decodeL l).2 = 1)) : decodeL (l ++ m) = decodeL l :=
  decode_same l _ hne hv (by rw [List.length_append]; have := decodeL_le l hne; omega) (fun j hj => by
    have := decodeL_le l hne
    simp only [List.getD_eq_getElem?_getD]
    rw [List.getElem?_append_left (by omega)])

theorem validD_append (l m : List UInt8) (hl : validD l = true) : validD (l ++ m) = validD m := by
  revert hl
  refine right_ind (C := fun l => validD (l ++ m) = validD m) (by simp) (fun l hne hv _ ih => ?_) l
  have hw := decodeL_width l
  have hle := decodeL_le l hne
  rw [validD_step (l ++ m) (by simp [hne]), decode_append l m hne hv, if_neg hv, List.drop_append_of_le_length hle]
  exact ih
theorem scals_append (l m : List UInt8) (hl : validD l = true) : scals (l ++ m) = scals l ++ scals m := by
  revert hl
  refine right_ind (C := fun l => scals (l ++ m) = scals l ++ scals m) (by simp [scals_nil]) (fun l hne hv _ ih => ?_) l
  have hle := decodeL_le l hne
  rw [scals_step (l ++ m) (by simp [hne]), decode_append l m hne hv, List.drop_append_of_le_length hle, ih, scals_step l hne, List.cons_append]
theorem unitsL_append (l m : List UInt8) (hl : validD l = true) : unitsL (l ++ m) = unitsL l + unitsL m := by
  unfold unitsL
  rw [scals_append l m hl, List.map_append, sumL_append]
end Go.Proofs.YtadkjeefiacdbaaDoor
