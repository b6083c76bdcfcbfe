/-
  THE WALK of the statement EditsParts. Conditions: what Env says of the world; the arguments. bounds.
-/
import Derived.Test.YtcadfaecoldcpaaDoorEdM
set_option linter.unusedVariables false
set_option linter.unusedSimpArgs false
namespace Go.Proofs.YtcadfaecoldcpaaDoor
open Go.RowKit Go.Lib Go.Shelf

theorem applyGo_le : ∀ (es : List EdL) (l : List UInt8), (applyGo l es).1.length ≤ max l.length 16384
  | [], l => Nat.le_max_left _ _
  | e :: r, l => by
    by_cases h : (edOne l e).2.2.2 = 0
    · rw [applyGo_ok h]
      have h1 := applyGo_le r (edOne l e).1
      have h2 := edOne_le (l := l) (e := e)
      omega
    · rw [applyGo_no h]
      exact Nat.zero_le _
theorem applyL_le (es : List EdL) (l : List UInt8) : (applyL l es).1.length ≤ max l.length 16384 := by
  unfold applyL
  split
  · exact applyGo_le es l
  · exact Nat.zero_le _
theorem RdE.take {w : World} {A : Option Addr} {l : List EdV} (h : RdE w A l) (k : Nat) : RdE w A (l.take k) := by
  intro i hi
  have hi2 : i < l.length := by rw [List.length_take] at hi; omega
  obtain ⟨g, o, h1⟩ := h i hi2
  rw [List.getElem_take]
  exact ⟨g, o, h1⟩
theorem RdE.drop {w : World} {g o : Nat} {l : List EdV} (h : RdE w (some ⟨g, o, none⟩) l) (k : Nat) : RdE w (some ⟨g, o + k * 5, none⟩) (l.drop k) := by
  intro i hi
  have hi2 : k + i < l.length := by rw [List.length_drop] at hi; omega
  obtain ⟨g', o', h1, h2, c⟩ := h (k + i) hi2
  cases h1
  rw [List.getElem_drop]
  refine ⟨g, o + k * 5, rfl, h2, ?_⟩
  rw [show o + (k + i) * 5 = o + k * 5 + i * 5 by omega] at c
  exact c
theorem RdE.nil (w : World) (A : Option Addr) : RdE w A [] := fun i hi => absurd hi (by simp)

theorem ap_lit {r : List UInt8 × Nat} {w : World} : ∀ e w', ApPost r w e w' → e = .returned (.tuple #[.string ⟨r.1.toArray⟩, .int .i64 ((r.2 : Nat) : Int)]) ∧ Below w.heap.size w w' := by
  rintro e w' ⟨x, hx, rfl, hb⟩
  obtain rfl : x = ⟨r.1.toArray⟩ := data_inj (by rw [hx])
  exact ⟨rfl, hb⟩
theorem rdE_tail {w : World} {A : Option Addr} {c k : Nat} {l : List EdV} (h : RdE w A l) (hlc : l.length ≤ c) (hk : k ≤ l.length) : RdE w (if c = k then A else Option.map (fun x => x.add (k * 5)) A) (l.drop k) := by
  by_cases hn : k = l.length
  · rw [List.drop_of_length_le (by omega)]
    exact RdE.nil _ _
  · rw [if_neg (by omega)]
    obtain ⟨g, o, hA, _⟩ := h k (by omega)
    subst hA
    rw [show Option.map (fun x => Addr.add x (k * 5)) (some (⟨g, o, none⟩ : Addr)) = some ((⟨g, o, none⟩ : Addr).add (k * 5)) from rfl, add_lit]
    exact h.drop k

end Go.Proofs.YtcadfaecoldcpaaDoor
