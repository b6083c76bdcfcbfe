/-
  PLAIN LEAN, no program in sight: there and back; joined. Conditions: none.
-/
import Derived.Test.YtadkjeefiacdbaaDoorUtf4
set_option linter.unusedVariables false
set_option linter.unusedSimpArgs false
namespace Go.Proofs.YtadkjeefiacdbaaDoor
open Go.Lib

theorem getD_get {l : List Nat} {k : Nat} (h : k < l.length) : l.getD k 0 = l[k] := by
  rw [List.getD_eq_getElem?_getD, List.getElem?_eq_getElem h]; rfl
theorem plU_sorted (l : List UInt8) : (plU l).Pairwise (· < ·) :=
  psum_sorted (uns l) 0 (fun x hx => by
    obtain ⟨p, hp, rfl⟩ := List.mem_map.1 hx
    exact (scals_pos l p hp).2.1)
theorem plB_sorted (l : List UInt8) : (plB l).Pairwise (· < ·) :=
  psum_sorted (wds l) 0 (fun x hx => by
    obtain ⟨p, hp, rfl⟩ := List.mem_map.1 hx
    exact (scals_pos l p hp).1)
theorem sorted_lt {l : List Nat} (hs : l.Pairwise (· < ·)) {i j : Nat} (hj : j < l.length) (h : i < j) : l.getD i 0 < l.getD j 0 := by
  rw [getD_get (by omega), getD_get hj]
  exact List.pairwise_iff_getElem.1 hs i j (by omega) hj h
theorem findF_sorted {l : List Nat} (hs : l.Pairwise (· < ·)) {k : Nat} (hk : k < l.length) : findF l ((l.getD k 0 : Nat) : Int) = some k :=
  findF_some hk rfl (fun j hj => by have := sorted_lt hs hk hj; omega)
/-- THERE AND BACK. -/
theorem off_back (l : List UInt8) (hv : validD l = true) (u : Int) (k : Nat) (h : offL l u = some k) :
    0 ≤ u ∧ u ≤ unitsL l ∧ unitAt l k = some u.toNat ∧ startAt l k ∧ (u = unitsL l ↔ k = l.length) ∧ k ≤ l.length := by
  rw [offL_find] at h
  cases hf : findF (plU l) u with
  | none => rw [hf] at h; cases h
  | some i =>
    rw [hf] at h
    simp only [Option.map_some, Option.some.injEq] at h
    obtain ⟨hi, hu⟩ := findF_lt hf
    have hlB := plB_length l
    have hlU := plU_length l
    have hb : findF (plB l) ((k : Nat) : Int) = some i := by rw [← h]; exact findF_sorted (plB_sorted l) (by omega)
    have hat : unitAt l k = some ((plU l).getD i 0) := by rw [unitAt_find, hb]; rfl
    have hst : startAt l k := Classical.byContradiction fun hn => by rw [(unitAt_start l hv k).2 hn] at hat; cases hat
    have hlastU := plU_last l
    have hlastB := plB_last l
    have hcmp : i = (scals l).length ∨ i < (scals l).length := by omega
    have hkl := hst.2.1
    refine ⟨by omega, ?_, by rw [hat]; congr 1; omega, hst, ?_, by omega⟩
    · rcases hcmp with rfl | hlt
      · omega
      · have := sorted_lt (plU_sorted l) (by omega) hlt
        omega
    · rcases hcmp with rfl | hlt
      · constructor <;> intro _ <;> omega
      · have h1 := sorted_lt (plU_sorted l) (by omega) hlt
        have h2 := sorted_lt (plB_sorted l) (by omega) hlt
        constructor <;> intro _ <;> omega
theorem offS_before : ∀ (S : List (Nat × Nat)) (i : Nat) (u : Int), (∀ p ∈ S, 1 ≤ p.2 ∧ p.2 ≤ 2) → offS i u S = none → 0 ≤ u → u ≤ sumL (S.map (·.2)) → ∃ k, offS i (u - 1) S = some k
  | [], i, u, _, h, h0, h1 => by
    simp at h1
    simp only [offS] at h
    rw [if_pos (by omega)] at h
    cases h
  | p :: r, i, u, hp, h, h0, h1 => by
    have hp1 := hp p (by simp)
    simp only [List.map_cons, sumL_cons] at h1
    simp only [offS] at h ⊢
    by_cases hu : u ≤ 0
    · rw [if_pos hu, if_neg (by omega)] at h
      cases h
    · rw [if_neg hu] at h
      by_cases hu1 : u = 1
      · subst hu1
        exact ⟨i, by simp⟩
      · rw [if_neg (by omega)]
        obtain ⟨k, hk⟩ := offS_before r (i + p.1) (u - p.2) (fun q hq => hp q (by simp [hq])) h (by omega) (by omega)
        exact ⟨k, by rw [← hk]; congr 1; omega⟩
/-- A unit that has no place stands behind one that has. -/
theorem off_before (l : List UInt8) (u : Int) (h : offL l u = none) (h0 : 0 ≤ u) (h1 : u ≤ unitsL l) : ∃ k, offL l (u - 1) = some k :=
  offS_before (scals l) 0 u (fun p hp => (scals_pos l p hp).2) h h0 h1
theorem cut_start (l : List UInt8) (hv : validD l = true) (k : Nat) (h : startAt l k) : cutN l k = k := by
  have hk := h.2.1
  unfold cutN
  rw [if_pos ⟨hv, by omega⟩, Int.toNat_natCast, Nat.min_eq_left (by omega)]
  have h1 := cutDown_le l k
  have h2 := (cutDown_max l hv k (by omega)).2 k (Nat.le_refl _) h
  omega
theorem offS_append : ∀ (A B : List (Nat × Nat)) (i : Nat) (u : Int), (∀ p ∈ A, 1 ≤ p.2) → 0 ≤ u → offS i ((sumL (A.map (·.2)) : Nat) + u) (A ++ B) = offS (i + sumL (A.map (·.1))) u B
  | [], B, i, u, _, _ => by simp
  | p :: r, B, i, u, hp, h0 => by
    have hp1 := hp p (by simp)
    simp only [List.map_cons, sumL_cons, List.cons_append, offS]
    rw [if_neg (by omega), ← Nat.add_assoc, ← offS_append r B (i + p.1) u (fun q hq => hp q (by simp [hq])) h0]
    congr 1
    omega
theorem offS_move : ∀ (S : List (Nat × Nat)) (i j : Nat) (u : Int), offS (i + j) u S = (offS j u S).map (i + ·)
  | [], i, j, u => by simp only [offS]; split <;> simp
  | p :: r, i, j, u => by
    simp only [offS]
    split
    · split <;> simp
    · rw [Nat.add_assoc, offS_move r]
/-- JOINED. -/
theorem off_joined (a b : List UInt8) (ha : validD a = true) (u : Int) (h0 : 0 ≤ u) : offL (a ++ b) ((unitsL a : Nat) + u) = (offL b u).map (a.length + ·) := by
  unfold offL
  rw [scals_append a b ha]
  have := offS_append (scals a) (scals b) 0 u (fun p hp => (scals_pos a p hp).2.1) h0
  rw [show sumL ((scals a).map (·.2)) = unitsL a from rfl, scals_sum] at this
  rw [this, Nat.zero_add]
  exact offS_move (scals b) a.length 0 u
end Go.Proofs.YtadkjeefiacdbaaDoor
