/-
  THE WALKS of layer 6.s alive and fits. Conditions: what Env says of the world.
-/
import Derived.Test.YtcadfaecoldcpaaDoorEdK
set_option linter.unusedVariables false
set_option linter.unusedSimpArgs false
namespace Go.Proofs.YtcadfaecoldcpaaDoor
open Go.RowKit Go.Lib Go.Shelf

theorem rdE_two (w : World) (e f : EdV) (t : TypeId) : RdE (w.alloc (.cells #[.int .i64 e.fl, .int .i64 e.fu, .int .i64 e.tl, .int .i64 e.tu, .string e.t, .int .i64 f.fl, .int .i64 f.fu, .int .i64 f.tl, .int .i64 f.tu, .string f.t] t)) (some ⟨w.heap.size, 0, none⟩) [e, f] := by
  intro i hi
  have h := Below.refl (w.alloc (.cells #[.int .i64 e.fl, .int .i64 e.fu, .int .i64 e.tl, .int .i64 e.tu, .string e.t, .int .i64 f.fl, .int .i64 f.fu, .int .i64 f.tl, .int .i64 f.tu, .string f.t] t)).heap.size (w.alloc (.cells #[.int .i64 e.fl, .int .i64 e.fu, .int .i64 e.tl, .int .i64 e.tu, .string e.t, .int .i64 f.fl, .int .i64 f.fu, .int .i64 f.tl, .int .i64 f.tu, .string f.t] t))
  have h2 : i = 0 ∨ i = 1 := by
    simp only [List.length_cons, List.length_nil] at hi
    omega
  refine ⟨w.heap.size, 0, rfl, by rw [World.size_alloc]; omega, ?_⟩
  rcases h2 with rfl | rfl
  · exact ⟨boxN h 0 rfl, boxN h 1 rfl, boxN h 2 rfl, boxN h 3 rfl, boxN h 4 rfl⟩
  · exact ⟨boxN h 5 rfl, boxN h 6 rfl, boxN h 7 rfl, boxN h 8 rfl, boxN h 9 rfl⟩

def lvA : ByteArray := ⟨#[97, 98, 10, 99, 100]⟩
def lvB : ByteArray := ⟨#[97, 88, 99, 100]⟩
def lvE : EdV := ⟨0, 1, 1, 0, ⟨#[88]⟩⟩
def lvF : EdV := ⟨0, 0, 0, 0, ⟨#[45]⟩⟩
def lvG : EdV := ⟨0, 1, 0, 0, ⟨#[]⟩⟩
set_option maxRecDepth 100000 in
theorem lv_apply : applyL lvA.data.toList [lvE.l, lvF.l] = ([45, 97, 88, 99, 100], 0) := by decide
set_option maxRecDepth 100000 in
theorem lv_one : (edOne [97] lvG.l).1 = [] ∧ (edOne [97] lvG.l).2.2.2 = 61 := by decide
set_option maxRecDepth 100000 in
theorem lv_move : moveL lvA.data.toList lvE.l 4 = (3, 0) := by decide
set_option maxRecDepth 100000 in
theorem lv_beg : begN lvA.data.toList lvB.data.toList = 1 := by decide
set_option maxRecDepth 100000 in
theorem lv_fin : finR lvA.data.toList lvB.data.toList = 2 := by decide
set_option maxRecDepth 100000 in
theorem lv_right : validD lvA.data.toList = true ∧ validD lvB.data.toList = true := by decide
set_option maxRecDepth 100000 in
theorem lv_p1 : placeP lvA.data.toList 1 = (0, 1, 0) := by
  have h : OnLine lvA.data.toList 1 0 := ⟨by decide, by decide, by decide⟩
  have := placeP_on h (by decide)
  rw [show ((1 : Nat) : Int) = 1 from rfl] at this
  rw [this, show unitAt (lineN lvA.data.toList 0) ((1 - startN lvA.data.toList 0 : Nat) : Int) = some 1 by decide]
set_option maxRecDepth 100000 in
theorem lv_p2 : placeP lvA.data.toList 3 = (1, 0, 0) := by
  have h : OnLine lvA.data.toList 3 1 := ⟨by decide, by decide, by decide⟩
  have := placeP_on h (by decide)
  rw [show ((3 : Nat) : Int) = 3 from rfl] at this
  rw [this, show unitAt (lineN lvA.data.toList 1) ((3 - startN lvA.data.toList 1 : Nat) : Int) = some 0 by decide]
theorem lv_between : betV lvA lvB = lvE := by
  unfold betV
  rw [lv_beg, lv_fin, show ((1 : Nat) : Int) = 1 from rfl, show ((lvA.data.toList.length - 2 : Nat) : Int) = 3 from rfl, lv_p1, lv_p2]
  unfold lvE
  congr 1

/-- How long the first texts are together. -/
def sumT (l : List EdV) : Nat := sumL (l.map fun e => e.t.size)
def FitsOk (s : ByteArray) (l : List EdV) : Prop := l.length ≤ 12 ∧ s.size + sumT (l.take 13) ≤ 300
def FitsPost (s : ByteArray) (l : List EdV) (w : World) (e : Ending) (w' : World) : Prop := ∃ b : Bool, e = .returned (.bool b) ∧ (b = true ↔ FitsOk s l) ∧ w' = w
theorem sumT_snoc (l : List EdV) (k : Nat) (h : k < l.length) : sumT (l.take (k + 1)) = sumT (l.take k) + (l[k]'h).t.size := by
  unfold sumT
  rw [List.take_succ_eq_append_getElem h, List.map_append, sumL_append]
  simp [sumL]
theorem sumT_le {l : List EdV} {B : Nat} (h : ∀ e ∈ l, e.t.size ≤ B) : ∀ k, sumT (l.take k) ≤ k * B
  | 0 => by simp [sumT, sumL]
  | k + 1 => by
    have ih := sumT_le h k
    by_cases hk : k < l.length
    · rw [sumT_snoc l k hk, Nat.add_mul]
      have := h _ (List.getElem_mem hk)
      omega
    · rw [List.take_of_length_le (by omega)]
      rw [List.take_of_length_le (by omega)] at ih
      rw [Nat.add_mul]
      omega
theorem FitsOk.elem {s : ByteArray} {l : List EdV} (h : FitsOk s l) : ∀ e ∈ l, e.t.size ≤ 300 := by
  intro e he
  obtain ⟨h1, h2⟩ := h
  rw [List.take_of_length_le (by omega)] at h2
  have : ∀ m : List EdV, e ∈ m → e.t.size ≤ sumT m := by
    intro m
    induction m with
    | nil => intro h; cases h
    | cons x r ih =>
      intro hm
      rw [show sumT (x :: r) = x.t.size + sumT r from rfl]
      rcases List.mem_cons.1 hm with rfl | hm
      · omega
      · have := ih hm
        omega
  have := this l he
  omega

end Go.Proofs.YtcadfaecoldcpaaDoor
