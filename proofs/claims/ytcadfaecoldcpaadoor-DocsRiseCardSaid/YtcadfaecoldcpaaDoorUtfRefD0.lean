/-
  THE WALKS of the reference's Cut and Units. Conditions: texts of at most 2^24 bytes.
-/
import Derived.Test.YtcadfaecoldcpaaDoorUtfRefC
import Derived.Test.YtcadfaecoldcpaaDoorPl
set_option linter.unusedVariables false
set_option linter.unusedSimpArgs false
namespace Go.Proofs.YtcadfaecoldcpaaDoor
open Go.RowKit Go.Lib

def StrPost (s : ByteArray) (w : World) (e : Ending) (w' : World) : Prop := e = .returned (.string s) ∧ Below w.heap.size w w'
theorem ret_str {a b : ByteArray} (h : a = b) : Ending.returned (.string a) = .returned (.string b) := by rw [h]
theorem ext_empty (s : ByteArray) : s.extract 0 0 = ⟨#[]⟩ := by
  rw [extract_eq]
  simp
theorem lastLe_le (most : Int) (N : Nat) : ∀ (l : List Nat) (a : Nat), a ≤ N → (∀ y ∈ l, y ≤ N) → lastLe most l a ≤ N
  | [], a, h, _ => h
  | x :: r, a, h, hl => by
    simp only [lastLe, List.foldl_cons]
    have := lastLe_le most N r (if (x : Int) ≤ most then x else a) (by split; exact hl x (by simp); exact h) (fun y hy => hl y (by simp [hy]))
    simpa only [lastLe] using this
theorem psum_le : ∀ (l : List Nat) (a : Nat), ∀ y ∈ psum a l, y ≤ a + sumL l
  | [], a, y, h => by simp [psum] at h; simp; omega
  | x :: r, a, y, h => by
    simp only [psum, List.mem_cons] at h
    rw [sumL_cons]
    rcases h with rfl | h
    · omega
    · have := psum_le r (a + x) y h
      omega
theorem plB_le (l : List UInt8) : ∀ y ∈ plB l, y ≤ l.length := by
  intro y hy
  have := psum_le (wds l) 0 y hy
  rw [show sumL (wds l) = l.length from scals_sum l] at this
  omega
theorem take_snoc' (l : List Nat) (k : Nat) (h : k < l.length) : l.take (k + 1) = l.take k ++ [l.getD k 0] := by
  rw [List.take_succ_eq_append_getElem h, List.getD_eq_getElem?_getD, List.getElem?_eq_getElem h]
  rfl

/-- A slice of strings. -/
def RdS (w : World) (A : Option Addr) (l : List ByteArray) : Prop := Rd w 1 A l.length (l.map Value.string)
theorem RdS.below {w w' : World} {A : Option Addr} {l : List ByteArray} (h : RdS w A l) (hb : Below w.heap.size w w') : RdS w' A l := Rd.below h hb
theorem RdS.cell {w : World} {A : Option Addr} {l : List ByteArray} (h : RdS w A l) {k : Nat} (hk : k < l.length) : ∃ ad, A = some ad ∧ ad.block < w.heap.size ∧ w.cell? (ad.add k) = some (.string (l.getD k ⟨#[]⟩)) := by
  obtain ⟨ad, u, hA, hb, hx, hc⟩ := Rd.at1 h hk
  refine ⟨ad, hA, hb, ?_⟩
  rw [hc, ← hx, List.getElem?_map, List.getElem?_eq_getElem hk, List.getD_eq_getElem?_getD, List.getElem?_eq_getElem hk]
  rfl
abbrev bytesOf (l : List ByteArray) : List (List UInt8) := l.map fun s => s.data.toList
theorem drop_cons {α : Type} (l : List α) (d : α) (k : Nat) (h : k < l.length) : l.drop k = l.getD k d :: l.drop (k + 1) := by
  rw [List.drop_eq_getElem_cons h, List.getD_eq_getElem?_getD, List.getElem?_eq_getElem h]
  rfl

set_option maxRecDepth 100000 in
theorem places_right (s : ByteArray) (w : World) (hs : s.size ≤ 16777216) (hv : validD s.data.toList = true) :
    Calls Tryd.prog 43 #[.string s] w fun e w1 => ∃ g1 c1 g2 c2, e = .returned (.tuple #[.slice (some ⟨g1, 0, none⟩) ((scals s.data.toList).length + 1) c1, .slice (some ⟨g2, 0, none⟩) ((scals s.data.toList).length + 1) c2, .bool true]) ∧
        PlRows w.heap.size w w1 g1 c1 ((scals s.data.toList).length + 1) (intsV (plB s.data.toList)) g2 c2 ((scals s.data.toList).length + 1) (intsV (plU s.data.toList)) := by
  refine (places_any s w hs).mono ?_
  rintro e w1 ⟨hb, ⟨_, h⟩ | ⟨hv', rfl⟩⟩
  · exact h
  · exact absurd (hv.symm.trans hv') (by decide)
set_option maxRecDepth 100000 in
theorem places_wrong (s : ByteArray) (w : World) (hs : s.size ≤ 16777216) (hv : ¬ validD s.data.toList = true) :
    Calls Tryd.prog 43 #[.string s] w fun e w1 => e = .returned (.tuple #[.slice none 0 0, .slice none 0 0, .bool false]) ∧ Below w.heap.size w w1 := by
  refine (places_any s w hs).mono ?_
  rintro e w1 ⟨hb, ⟨hv', _⟩ | ⟨_, rfl⟩⟩
  · exact absurd hv' hv
  · exact ⟨rfl, hb⟩
/-- The last of the units' places. -/
theorem PlRows.last {B : Nat} {w wr : World} {g1 c1 g2 c2 m1 : Nat} {xs1 : List Value} {b : List UInt8} (h : PlRows B w wr g1 c1 m1 xs1 g2 c2 ((scals b).length + 1) (intsV (plU b))) :
    wr.cell? ⟨g2, (scals b).length, none⟩ = some (.int .i64 ((unitsL b : Nat) : Int)) := by
  have := (h.r2 (plU_length b)).cell0 (k := (scals b).length) (by rw [plU_length]; omega)
  rw [plU_last] at this
  exact this

end Go.Proofs.YtcadfaecoldcpaaDoor
