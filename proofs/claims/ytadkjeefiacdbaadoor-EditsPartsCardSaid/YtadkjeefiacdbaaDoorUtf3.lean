/-
  PLAIN LEAN, no program in sight: what Offset, Unit, Cut and Units answer, and that the reference's search among the places comes to it. Conditions: none.
-/
import Derived.Test.YtadkjeefiacdbaaDoorUtf2
set_option linter.unusedVariables false
set_option linter.unusedSimpArgs false
namespace Go.Proofs.YtadkjeefiacdbaaDoor
open Go.Lib

def findF (l : List Nat) (x : Int) : Option Nat := l.findIdx? (fun y : Nat => decide ((y : Int) = x))
theorem findF_some {l : List Nat} {x : Int} {k : Nat} (hk : k < l.length) (h : ((l.getD k 0 : Nat) : Int) = x) (hb : ∀ j, j < k → ((l.getD j 0 : Nat) : Int) ≠ x) : findF l x = some k := by
  unfold findF
  rw [List.findIdx?_eq_some_iff_getElem]
  refine ⟨hk, ?_, fun j hj => ?_⟩
  · rw [List.getD_eq_getElem?_getD, List.getElem?_eq_getElem hk] at h
    simpa using h
  · have := hb j hj
    rw [List.getD_eq_getElem?_getD, List.getElem?_eq_getElem (by omega)] at this
    simpa using this
theorem findF_none {l : List Nat} {x : Int} (hb : ∀ j, j < l.length → ((l.getD j 0 : Nat) : Int) ≠ x) : findF l x = none := by
  unfold findF
  rw [List.findIdx?_eq_none_iff]
  intro y hy
  obtain ⟨j, hj, rfl⟩ := List.getElem_of_mem hy
  have := hb j hj
  rw [List.getD_eq_getElem?_getD, List.getElem?_eq_getElem hj] at this
  simpa using this
theorem findF_lt {l : List Nat} {x : Int} {k : Nat} (h : findF l x = some k) : k < l.length ∧ ((l.getD k 0 : Nat) : Int) = x := by
  unfold findF at h
  rw [List.findIdx?_eq_some_iff_getElem] at h
  obtain ⟨hk, h1, _⟩ := h
  refine ⟨hk, ?_⟩
  rw [List.getD_eq_getElem?_getD, List.getElem?_eq_getElem hk]
  simpa using h1
theorem findF_notin {l : List Nat} {x : Int} (h : findF l x = none) : ∀ y ∈ l, (y : Int) ≠ x := by
  unfold findF at h
  rw [List.findIdx?_eq_none_iff] at h
  intro y hy
  simpa using h y hy

/-! ### the search among the places, along the scalars -/
theorem offS_find : ∀ (S : List (Nat × Nat)) (i a : Nat) (u : Int), (∀ p ∈ S, 1 ≤ p.2) →
    offS i (u - (a : Int)) S = (findF (psum a (S.map (·.2))) u).map ((psum i (S.map (·.1))).getD · 0)
  | [], i, a, u, _ => by
    simp only [offS, psum, List.map_nil, findF, List.findIdx?_cons, List.findIdx?_nil]
    by_cases h : (a : Int) = u
    · rw [if_pos (by omega), decide_eq_true h]; rfl
    · rw [if_neg (by omega), decide_eq_false h]; rfl
  | p :: r, i, a, u, hp => by
    have hp1 := hp p (by simp)
    have ih := offS_find r (i + p.1) (a + p.2) u (fun q hq => hp q (by simp [hq]))
    simp only [offS, psum, List.map_cons, findF, List.findIdx?_cons]
    by_cases h : (a : Int) = u
    · rw [if_pos (by omega), if_neg (by omega), decide_eq_true h]; rfl
    · rw [decide_eq_false h]
      by_cases hlt : u < (a : Int)
      · rw [if_pos (by omega), if_pos (by omega)]
        have : ∀ (l : List Nat) (b : Nat), a ≤ b → findF (psum b l) u = none := by
          intro l
          induction l with
          | nil => intro b hb; simp only [psum, findF, List.findIdx?_cons, List.findIdx?_nil]; rw [decide_eq_false (by omega)]; rfl
          | cons x l ih =>
            intro b hb
            have := ih (b + x) (by omega)
            unfold findF at this
            simp only [psum, findF, List.findIdx?_cons]
            rw [decide_eq_false (by omega), this]; rfl
        have h2 := this (r.map (·.2)) (a + p.2) (by omega)
        unfold findF at h2
        rw [h2]
        rfl
      · rw [if_neg (by omega)]
        rw [show u - (a : Int) - (p.2 : Int) = u - ((a + p.2 : Nat) : Int) by omega, ih]
        unfold findF
        cases List.findIdx? (fun y : Nat => decide ((y : Int) = u)) (psum (a + p.2) (r.map (·.2))) <;> simp
theorem offL_find (l : List UInt8) (u : Int) : offL l u = (findF (plU l) u).map ((plB l).getD · 0) := by
  have := offS_find (scals l) 0 0 u (fun p hp => (scals_pos l p hp).2.1)
  rw [show u - ((0 : Nat) : Int) = u by omega] at this
  exact this

/-- What Offset answers. -/
def offRes (l : List UInt8) (u : Int) : Nat × Nat := if validD l = true then (match offL l u with | some k => (k, 0) | none => (0, 12)) else (0, 11)

/-! ### where a scalar begins -/
/-- The units ahead of a byte, if a scalar begins there, or the text ends. -/
def unitS : Nat → Int → List (Nat × Nat) → Option Nat
  | a, x, [] => if x = 0 then some a else none
  | a, x, p :: r => if x ≤ 0 then (if x < 0 then none else some a) else unitS (a + p.2) (x - (p.1 : Int)) r
def unitAt (l : List UInt8) (x : Int) : Option Nat := unitS 0 x (scals l)
theorem unitS_swap : ∀ (S : List (Nat × Nat)) (a : Nat) (x : Int), unitS a x S = offS a x (S.map fun p => (p.2, p.1))
  | [], _, _ => rfl
  | p :: r, a, x => by simp only [unitS, offS, List.map_cons, unitS_swap r]
theorem unitAt_find (l : List UInt8) (x : Int) : unitAt l x = (findF (plB l) x).map ((plU l).getD · 0) := by
  have := offS_find ((scals l).map fun p => (p.2, p.1)) 0 0 x (fun p hp => by
    obtain ⟨q, hq, rfl⟩ := List.mem_map.1 hp
    exact (scals_pos l q hq).1)
  rw [show x - ((0 : Nat) : Int) = x by omega, ← unitS_swap, List.map_map, List.map_map] at this
  exact this
/-- What Unit answers. -/
def unitRes (l : List UInt8) (x : Int) : Nat × Nat := if validD l = true then (match unitAt l x with | some k => (k, 0) | none => (0, 12)) else (0, 11)

/-- Does a scalar of a right text begin at a byte, or does the text end there? -/
def startAt (l : List UInt8) (x : Int) : Prop := 0 ≤ x ∧ x ≤ l.length ∧ (x < l.length → contB (l.getD x.toNat 0) = false)
theorem drop_ne {l : List UInt8} {k : Nat} (hk : k < l.length) : l.drop k ≠ [] := by
  intro h0
  have := congrArg List.length h0
  rw [List.length_drop] at this
  simp at this
  omega
theorem unitS_shift : ∀ (S : List (Nat × Nat)) (a b : Nat) (x : Int), unitS (a + b) x S = (unitS b x S).map (a + ·)
  | [], a, b, x => by simp only [unitS]; split <;> simp
  | p :: r, a, b, x => by
    simp only [unitS]
    split
    · split <;> simp
    · rw [Nat.add_assoc, unitS_shift r]
theorem unitAt_nil (x : Int) : unitAt [] x = if x = 0 then some 0 else none := rfl
theorem unitAt_step (l : List UInt8) (hne : l ≠ []) (x : Int) :
    unitAt l x = if x ≤ 0 then (if x < 0 then none else some 0) else (unitAt (l.drop (decodeL l).2) (x - ((decodeL l).2 : Int))).map (unsOf (decodeL l).1 + ·) := by
  unfold unitAt
  rw [scals_step l hne]
  simp only [unitS, Nat.zero_add]
  split
  · rfl
  · have := unitS_shift (scals (l.drop (decodeL l).2)) (unsOf (decodeL l).1) 0 (x - ((decodeL l).2 : Int))
    rw [Nat.add_zero] at this
    exact this
theorem getD_drop' (l : List UInt8) (i j : Nat) : (l.drop i).getD j 0 = l.getD (i + j) 0 := by simp [List.getD_eq_getElem?_getD, List.getElem?_drop]
/-- Of a right text: there are units ahead of a byte just if a scalar begins there; and they are those of the beginning. -/
theorem unitAt_start (l : List UInt8) (hv : validD l = true) : ∀ x : Int, (startAt l x → unitAt l x = some (unitsL (l.take x.toNat)) ∧ validD (l.take x.toNat) = true ∧ validD (l.drop x.toNat) = true) ∧ (¬ startAt l x → unitAt l x = none) := by
  revert hv
  refine right_ind (C := fun l => ∀ x : Int, (startAt l x → unitAt l x = some (unitsL (l.take x.toNat)) ∧ validD (l.take x.toNat) = true ∧ validD (l.drop x.toNat) = true) ∧ (¬ startAt l x → unitAt l x = none)) (fun x => ?_) (fun l hne hv hvd ih x => ?_) l
  · rw [unitAt_nil]
    refine ⟨fun h => ?_, fun h => ?_⟩
    · obtain ⟨a, b, _⟩ := h
      simp at b
      rw [if_pos (by omega)]
      simp [unitsL_nil, validD_nil]
    · rw [if_neg]
      rintro rfl
      exact h ⟨by omega, by simp, fun h => by simp at h⟩
  · rw [unitAt_step l hne]
    have hw := decodeL_width l
    have hle := decodeL_le l hne
    obtain ⟨d0, d1, d4⟩ := decode_bytes l hne hv
    have hvl : validD l = true := by rw [validD_step l hne, if_neg hv]; exact hvd
    by_cases hx : x ≤ 0
    · rw [if_pos hx]
      by_cases hx0 : x < 0
      · rw [if_pos hx0]
        exact ⟨fun h => by have := h.1; omega, fun _ => rfl⟩
      · obtain rfl : x = 0 := by omega
        rw [if_neg hx0]
        refine ⟨fun _ => by simpa [unitsL_nil, validD_nil] using hvl, fun h => ?_⟩
        exact absurd ⟨by omega, by omega, fun _ => by simpa using d0⟩ h
    · rw [if_neg hx]
      obtain ⟨ih1, ih2⟩ := ih (x - ((decodeL l).2 : Int))
      have hlen : ((l.drop (decodeL l).2).length : Int) = l.length - (decodeL l).2 := by rw [List.length_drop]; omega
      by_cases hxw : x < ((decodeL l).2 : Int)
      · have hn : ¬ startAt (l.drop (decodeL l).2) (x - ((decodeL l).2 : Int)) := fun h => by have := h.1; omega
        rw [ih2 hn]
        refine ⟨fun h => ?_, fun _ => rfl⟩
        have h1 := h.2.2 (by omega)
        rw [d1 x.toNat (by omega) (by omega)] at h1
        cases h1
      · have hiff : startAt (l.drop (decodeL l).2) (x - ((decodeL l).2 : Int)) ↔ startAt l x := by
          unfold startAt
          rw [hlen, getD_drop']
          rw [show (decodeL l).2 + (x - ((decodeL l).2 : Int)).toNat = x.toNat by omega]
          constructor
          · rintro ⟨a, b, c⟩
            exact ⟨by omega, by omega, fun h => c (by omega)⟩
          · rintro ⟨a, b, c⟩
            exact ⟨by omega, by omega, fun h => c (by omega)⟩
        refine ⟨fun h => ?_, fun h => ?_⟩
        · obtain ⟨a, b, c⟩ := ih1 (hiff.2 h)
          have hdt : (l.take x.toNat).drop (decodeL l).2 = (l.drop (decodeL l).2).take (x - ((decodeL l).2 : Int)).toNat := by
            rw [List.drop_take]
            congr 1
            omega
          have htne : l.take x.toNat ≠ [] := by
            intro h0
            rw [List.take_eq_nil_iff] at h0
            rcases h0 with h0 | h0
            · omega
            · exact hne h0
          have hdec := decode_take l x.toNat hne hv (by omega)
          refine ⟨?_, ?_, ?_⟩
          · rw [a, unitsL_step _ htne, hdec, hdt]
            rfl
          · rw [validD_step _ htne, hdec, if_neg hv, hdt]
            exact b
          · rw [List.drop_drop] at c
            rw [show x.toNat = (decodeL l).2 + (x - ((decodeL l).2 : Int)).toNat by omega]
            exact c
        · rw [ih2 (fun h' => h (hiff.1 h'))]
          rfl
end Go.Proofs.YtadkjeefiacdbaaDoor
