/-
  THE WALKS of the statements of layer 1: alive, fits. Conditions: the library's two tables lie as its text lays them.
-/
import Derived.Test.YtcadfaecoldcpaaDoorUtfB
import Derived.Test.YtcadfaecoldcpaaDoorPl
set_option linter.unusedVariables false
set_option linter.unusedSimpArgs false
namespace Go.Proofs.YtcadfaecoldcpaaDoor
open Go.RowKit Go.Lib Go.Shelf
def Lit2 (a b : Int) (w : World) (e : Ending) (w' : World) : Prop := e = .returned (.tuple #[.int .i64 a, .int .i64 b]) ∧ Below w.heap.size w w'
theorem post2_lit {p : Nat × Nat} {a b : Nat} {w : World} (h : p = (a, b)) : ∀ e w', Post2 p w e w' → Lit2 (a : Nat) (b : Nat) w e w' := by
  rintro e w' ⟨rfl, hb⟩
  subst h
  exact ⟨rfl, hb⟩
theorem rdS_new (w : World) (l : List ByteArray) : RdS (w.alloc (.cells (l.map Value.string).toArray 9)) (some ⟨w.heap.size, 0, none⟩) l := by
  refine ⟨by simp, fun _ => ⟨_, rfl, by simp, fun j u hu => ?_⟩⟩
  rw [add_lit, Nat.zero_add, cell_of_row _ w.heap.size j _ _ (0, 0) (heap_alloc_new w _)]
  simpa using hu

theorem and255 (x : Int) : ∃ k : Nat, k ≤ 255 ∧ bits .and .i64 x 255 = (k : Int) := by
  refine ⟨(BitVec.ofInt 64 x).toNat &&& 255, Nat.and_le_right, ?_⟩
  have h1 : (BitVec.ofInt 64 x).toNat &&& 255 ≤ 255 := Nat.and_le_right
  show IntKind.i64.wrap (((BitVec.ofInt 64 x) &&& (BitVec.ofInt 64 255)).toNat : Int) = _
  rw [BitVec.toNat_and, show (BitVec.ofInt 64 255).toNat = 255 by decide, IntKind.wrap_i64]
  omega

theorem bth {w0 w1 w2 : World} (h : Below w0.heap.size w0 w1) (k : Below w1.heap.size w1 w2) : Below w0.heap.size w0 w2 := h.trans (k.mono h.size)

theorem bdr {w w' : World} (h : Below w.drew.heap.size w.drew w') : Below w.heap.size w w' := ⟨h.os, h.tape, h.output, h.size, h.block⟩
theorem wrap64_bd (x : Int) : -9223372036854775808 ≤ wrap64 x ∧ wrap64 x ≤ 9223372036854775807 := by unfold wrap64; omega
theorem str_eq (s t : ByteArray) (h : s = t) : (s.toList == t.toList) = true := by subst h; simp

theorem cat_data (a b : ByteArray) : (a ++ b).data.toList = a.data.toList ++ b.data.toList := by
  obtain ⟨⟨x⟩⟩ := a
  obtain ⟨⟨y⟩⟩ := b
  simp [ByteArray.data_append]
theorem cat_size (a b : ByteArray) : (a ++ b).size = a.size + b.size := by rw [size_eq, cat_data, List.length_append, ← size_eq, ← size_eq]

end Go.Proofs.YtcadfaecoldcpaaDoor
