/-
  PLAIN LEAN, no program in sight: the longest beginning; the units of several texts. Conditions: none.
-/
import Derived.Test.YtadkjeefiacdbaaDoorUtf3
set_option linter.unusedVariables false
set_option linter.unusedSimpArgs false
namespace Go.Proofs.YtadkjeefiacdbaaDoor
open Go.Lib

/-- The reference's: the last place that is small enough. -/
def lastLe (most : Int) (l : List Nat) (a : Nat) : Nat := l.foldl (fun (a b : Nat) => if (b : Int) ≤ most then b else a) a
theorem lastLe_snoc (most : Int) (l : List Nat) (x a : Nat) : lastLe most (l ++ [x]) a = if (x : Int) ≤ most then x else lastLe most l a := by
  simp [lastLe, List.foldl_append]
/-- The program's: from a byte back to where a scalar begins. -/
def cutDown (l : List UInt8) : Nat → Nat
  | 0 => 0
  | k + 1 => if k + 1 < l.length ∧ contB (l.getD (k + 1) 0) = true then cutDown l k else k + 1
/-- How many bytes the longest beginning has. -/
def cutN (l : List UInt8) (most : Int) : Nat := if validD l = true ∧ 0 ≤ most then cutDown l (min most.toNat l.length) else 0
theorem psum_ge : ∀ (l : List Nat) (a : Nat), ∀ y ∈ psum a l, a ≤ y
  | [], a, y, h => by simp [psum] at h; omega
  | x :: r, a, y, h => by
    simp only [psum, List.mem_cons] at h
    rcases h with rfl | h
    · exact Nat.le_refl _
    · have := psum_ge r (a + x) y h
      omega
theorem psum_sorted : ∀ (l : List Nat) (a : Nat), (∀ x ∈ l, 1 ≤ x) → (psum a l).Pairwise (· < ·)
  | [], a, _ => by simp [psum]
  | x :: r, a, h => by
    simp only [psum, List.pairwise_cons]
    refine ⟨fun y hy => ?_, psum_sorted r _ (fun q hq => h q (by simp [hq]))⟩
    have := psum_ge r (a + x) y hy
    have := h x (by simp)
    omega
theorem lastLe_max (most : Int) : ∀ (l : List Nat) (a : Nat), (l).Pairwise (· < ·) → (∀ y ∈ l, a < y) → (a : Int) ≤ most →
    (lastLe most l a : Int) ≤ most ∧ (lastLe most l a = a ∨ lastLe most l a ∈ l) ∧ a ≤ lastLe most l a ∧ ∀ y ∈ l, (y : Int) ≤ most → y ≤ lastLe most l a
  | [], a, _, _, h => ⟨h, .inl rfl, Nat.le_refl _, fun y hy => by cases hy⟩
  | x :: r, a, hp, hlt, h => by
    rw [List.pairwise_cons] at hp
    have hax := hlt x (by simp)
    by_cases hx : (x : Int) ≤ most
    · have e : lastLe most (x :: r) a = lastLe most r x := by simp [lastLe, hx]
      obtain ⟨h1, h2, h3, h4⟩ := lastLe_max most r x hp.2 hp.1 hx
      rw [e]
      refine ⟨h1, .inr ?_, by omega, fun y hy hy2 => ?_⟩
      · rcases h2 with h2 | h2
        · rw [h2]; simp
        · exact List.mem_cons_of_mem _ h2
      · rcases List.mem_cons.1 hy with rfl | hy
        · exact h3
        · exact h4 y hy hy2
    · have e : lastLe most (x :: r) a = lastLe most r a := by simp [lastLe, hx]
      obtain ⟨h1, h2, h3, h4⟩ := lastLe_max most r a hp.2 (fun y hy => by have := hp.1 y hy; omega) h
      rw [e]
      refine ⟨h1, ?_, h3, fun y hy hy2 => ?_⟩
      · rcases h2 with h2 | h2
        · exact .inl h2
        · exact .inr (List.mem_cons_of_mem _ h2)
      · rcases List.mem_cons.1 hy with rfl | hy
        · exact absurd hy2 hx
        · exact h4 y hy hy2
theorem plB_start (l : List UInt8) (hv : validD l = true) (y : Nat) : y ∈ plB l ↔ startAt l y := by
  have h := unitAt_start l hv y
  rw [unitAt_find] at h
  constructor
  · intro hy
    refine Classical.byContradiction fun hn => ?_
    have h2 := h.2 hn
    rw [Option.map_eq_none_iff] at h2
    exact findF_notin h2 y hy rfl
  · intro hs
    have h1 := (h.1 hs).1
    cases hf : findF (plB l) y with
    | none => rw [hf] at h1; cases h1
    | some k =>
      obtain ⟨hk, he⟩ := findF_lt hf
      have : y = (plB l).getD k 0 := by omega
      rw [this, List.getD_eq_getElem?_getD, List.getElem?_eq_getElem hk]
      exact List.getElem_mem hk
theorem cutDown_le (l : List UInt8) : ∀ k, cutDown l k ≤ k
  | 0 => Nat.le_refl _
  | k + 1 => by
    unfold cutDown
    split
    · have := cutDown_le l k; omega
    · exact Nat.le_refl _
theorem start0 (l : List UInt8) (hv : validD l = true) : startAt l 0 := by
  refine ⟨by omega, by omega, fun h => ?_⟩
  have hne : l ≠ [] := by rintro rfl; simp at h
  exact (decode_bytes l hne (validD_cases l hne hv).1).1
theorem cutDown_max (l : List UInt8) (hv : validD l = true) : ∀ k : Nat, k ≤ l.length → startAt l (cutDown l k : Nat) ∧ ∀ y : Nat, y ≤ k → startAt l y → y ≤ cutDown l k
  | 0, _ => ⟨start0 l hv, fun y hy _ => hy⟩
  | k + 1, hk => by
    unfold cutDown
    by_cases hc : k + 1 < l.length ∧ contB (l.getD (k + 1) 0) = true
    · rw [if_pos hc]
      obtain ⟨h1, h2⟩ := cutDown_max l hv k (by omega)
      refine ⟨h1, fun y hy hs => ?_⟩
      by_cases hyk : y = k + 1
      · subst hyk
        have := hs.2.2 (by omega)
        rw [Int.toNat_natCast, hc.2] at this
        cases this
      · exact h2 y (by omega) hs
    · rw [if_neg hc]
      refine ⟨⟨by omega, by omega, fun h => ?_⟩, fun y hy _ => hy⟩
      rw [Int.toNat_natCast]
      cases hcc : contB (l.getD (k + 1) 0) with
      | false => rfl
      | true => exact absurd ⟨by omega, hcc⟩ hc
theorem plB_cons (l : List UInt8) : ∃ r, plB l = 0 :: r := by
  unfold plB
  cases wds l with
  | nil => exact ⟨[], rfl⟩
  | cons x r => exact ⟨_, rfl⟩
/-- The reference's longest beginning is the program's. -/
theorem cut_ref (l : List UInt8) (hv : validD l = true) (most : Int) : lastLe most (plB l) 0 = cutN l most := by
  obtain ⟨r, hr⟩ := plB_cons l
  have hs := psum_sorted (wds l) 0 (fun x hx => by
    obtain ⟨p, hp, rfl⟩ := List.mem_map.1 hx
    exact (scals_pos l p hp).1)
  rw [show psum 0 (wds l) = plB l from rfl, hr, List.pairwise_cons] at hs
  unfold cutN
  by_cases hm : 0 ≤ most
  · rw [if_pos ⟨hv, hm⟩, hr]
    have e : lastLe most (0 :: r) 0 = lastLe most r 0 := by simp [lastLe]
    rw [e]
    obtain ⟨h1, h2, h3, h4⟩ := lastLe_max most r 0 hs.2 hs.1 hm
    obtain ⟨d1, d2⟩ := cutDown_max l hv (min most.toNat l.length) (by omega)
    have hle := cutDown_le l (min most.toNat l.length)
    have hmem : lastLe most r 0 ∈ plB l := by
      rw [hr]
      rcases h2 with h2 | h2
      · rw [h2]; simp
      · exact List.mem_cons_of_mem _ h2
    have hst := (plB_start l hv _).1 hmem
    have a1 : lastLe most r 0 ≤ cutDown l (min most.toNat l.length) := d2 _ (by have := hst.2.1; omega) hst
    have a2 : cutDown l (min most.toNat l.length) ≤ lastLe most r 0 := by
      have hin := (plB_start l hv _).2 d1
      rw [hr] at hin
      rcases List.mem_cons.1 hin with h0 | h0
      · omega
      · exact h4 _ h0 (by omega)
    omega
  · rw [if_neg (fun h => hm h.2)]
    have : ∀ (q : List Nat), lastLe most q 0 = 0 := by
      intro q
      induction q with
      | nil => rfl
      | cons x q ih => simp only [lastLe, List.foldl_cons] at ih ⊢; rw [if_neg (by omega)]; exact ih
    exact this _
theorem cutN_le (l : List UInt8) (most : Int) : cutN l most ≤ l.length := by
  unfold cutN
  split
  · have := cutDown_le l (min most.toNat l.length); omega
  · omega

/-- The units of several texts: 11, if one is not right. -/
def unitsAll : List (List UInt8) → Nat → Nat × Nat
  | [], n => (n, 0)
  | s :: r, n => if validD s = true then unitsAll r (n + unitsL s) else (0, 11)
end Go.Proofs.YtadkjeefiacdbaaDoor
