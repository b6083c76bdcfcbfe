/-
  ARGUMENTS OPENED: an edit, a slice of edits, an edit and a byte. Conditions: stated at each.
-/
import Derived.Test.YtcadfaecoldcpaaDoorCardKit
import Derived.Test.YtcadfaecoldcpaaDoorEdM
import Derived.Deep.Slices
import Derived.Deep.Strs
import Derived.ChangeSame
set_option linter.unusedVariables false
set_option linter.unusedSimpArgs false
namespace Go.Proofs.YtcadfaecoldcpaaDoor
open Go.ChangeShapes Go.WideShapes Go.ChangeAt Go.RowKit Go.Shelf Go.Lib Go.Deep

section
variable {H : Type} {enc : TypeId × Value → H} {w : World} {base : Nat} {spare : Nat → Bool} {held : Bool} {r : Reach} {b0 : Nat}
def InI (x : Int) : Prop := -9223372036854775808 ≤ x ∧ x ≤ 9223372036854775807
structure EdV.In (e : EdV) : Prop where
  fl : InI e.fl
  fu : InI e.fu
  tl : InI e.tl
  tu : InI e.tu
set_option maxRecDepth 100000 in
theorem place_cells {fuel : Nat} {cs : List Value} {x : DataW H × List MemPlace} (h : DataW.trod enc Tryd.prog w base spare held fuel 54 cs = some x) :
    ∃ a b : Int, cs = [.int .i64 a, .int .i64 b] ∧ InI a ∧ InI b := by
  obtain ⟨y0, y1, n, _, hl, h0, h1⟩ := trod_struct2 (t := 54) Tryd.underlying54 h
  rw [show Tryd.prog.cellsOf 54 = 2 by kernel_rfl] at hl
  match cs, hl with
  | [c0, c1], _ =>
    obtain ⟨a, ha, _, wa⟩ := DataW.trod_int Tryd.underlying3 h0
    obtain ⟨b, hb, _, wb⟩ := DataW.trod_int Tryd.underlying3 h1
    rw [show Tryd.prog.cellsOf 3 = 1 by kernel_rfl] at ha hb
    simp at ha hb
    subst ha hb
    exact ⟨a, b, rfl, bd_int wa, bd_int wb⟩
set_option maxRecDepth 100000 in
theorem edit_cells {fuel : Nat} {cs : List Value} {x : DataW H × List MemPlace} (h : DataW.trod enc Tryd.prog w base spare held fuel 56 cs = some x) :
    ∃ (e : EdV) (d1 d2 : DataW H), cs = [.int .i64 e.fl, .int .i64 e.fu, .int .i64 e.tl, .int .i64 e.tu, .string e.t] ∧ e.In ∧ x.1 = .agg [d1, d2, .lit (.string e.t.data.toList)] := by
  obtain ⟨y0, y1, y2, n, rfl, hl, h0, h1, h2⟩ := trod_struct3 (t := 56) Tryd.underlying56 h
  rw [show Tryd.prog.cellsOf 56 = 5 by kernel_rfl] at hl
  match cs, hl with
  | [c0, c1, c2, c3, c4], _ =>
    obtain ⟨a, b, e0, ia, ib⟩ := place_cells h0
    obtain ⟨c, d, e1, ic, id⟩ := place_cells h1
    obtain ⟨s, e2, hs, _⟩ := DataW.trod_string Tryd.underlying9 h2
    rw [show Tryd.prog.cellsOf 54 = 2 by kernel_rfl] at e0 e1
    rw [show Tryd.prog.cellsOf 9 = 1 by kernel_rfl] at e2
    simp at e0 e1 e2
    obtain ⟨rfl, rfl⟩ := e0
    obtain ⟨rfl, rfl⟩ := e1
    subst e2
    exact ⟨⟨a, b, c, d, s⟩, y0.1, y1.1, rfl, ⟨ia, ib, ic, id⟩, by rw [hs]⟩
theorem spot_of {w : World} {a : Addr} {v : Value} (h : w.cell? a = some v) : a.spot = none := by
  unfold World.cell? at h
  split at h
  · split at h
    · cases h
    · rename_i hs
      cases ha : a.spot with
      | none => rfl
      | some x => rw [ha] at hs; simp at hs
  · cases h
theorem lt_of_cell {w : World} {a : Addr} {v : Value} (h : w.cell? a = some v) : a.block < w.heap.size := by
  unfold World.cell? at h
  split at h
  · rename_i hh
    exact (Array.getElem?_eq_some_iff.1 hh).1
  · cases h
set_option maxRecDepth 100000 in
theorem edits_cells {fuel : Nat} {A : Option Addr} {len cap : Nat} {x : DataW H × List MemPlace} (h : DataW.trod enc Tryd.prog w base spare held fuel 25 [.slice A len cap] = some x) :
    len ≤ cap ∧ cap ≤ maxLen ∧ ∃ l : List EdV, l.length = len ∧ RdE w A l ∧ (∀ e ∈ l, e.In) ∧ ((l = [] ∧ x.1 = .nil) ∨ ∃ elems sp, x.1 = .slice elems sp ∧ elems.length = len ∧ ∀ e ∈ l, ∃ d1 d2 : DataW H, .agg [d1, d2, .lit (.string e.t.data.toList)] ∈ elems) := by
  rcases open_slice (t := 25) Tryd.underlying25 h with ⟨hcs, hx⟩ | ⟨a, len', cap', m, n, D, Pl, hcs, _, hl, hm, hmm, hx, hel⟩
  · simp at hcs
    obtain ⟨rfl, rfl, rfl⟩ := hcs
    exact ⟨Nat.le_refl _, Nat.zero_le _, [], rfl, fun i hi => absurd hi (by simp), fun e he => (by cases he), .inl ⟨rfl, by rw [hx]⟩⟩
  · simp at hcs
    obtain ⟨rfl, rfl, rfl⟩ := hcs
    have hlm : len ≤ m := by rw [hmm]; split <;> omega
    have each : ∀ i, i < len → ∃ e : EdV, (∀ j (u : Value), [Value.int .i64 e.fl, .int .i64 e.fu, .int .i64 e.tl, .int .i64 e.tu, .string e.t][j]? = some u → w.cell? ((a.add (i * 5)).add j) = some u) ∧ e.In ∧ ∃ d1 d2 : DataW H, D i = .agg [d1, d2, .lit (.string e.t.data.toList)] := by
      intro i hi
      obtain ⟨cs, h1, h2⟩ := hel i (by omega)
      obtain ⟨e, d1, d2, rfl, hin, hd⟩ := edit_cells h2
      rw [show Tryd.prog.cellsOf 56 = 5 by kernel_rfl] at h1
      obtain ⟨_, _, hc⟩ := World.cells?_some h1
      refine ⟨e, fun j u hu => ?_, hin, d1, d2, hd⟩
      have hj : j < 5 := (List.getElem?_eq_some_iff.1 hu).1
      rw [hc j hj, hu]
    haveI : Inhabited EdV := ⟨zeroV⟩
    obtain ⟨E, hE⟩ := choose_lt (α := EdV) each
    refine ⟨hl, hm, (List.range len).map E, by simp, ?_, ?_, .inr ⟨_, _, by rw [hx], by simp, ?_⟩⟩
    · intro i hi
      simp only [List.length_map, List.length_range] at hi
      obtain ⟨hc, _, _⟩ := hE i hi
      have hz := (hE 0 (by omega)).1 0 _ rfl
      rw [Nat.zero_mul, show (a.add 0).add 0 = a from rfl] at hz
      have hsp := spot_of hz
      have hlt := lt_of_cell hz
      obtain ⟨g, o, sp⟩ := a
      simp only at hsp hlt
      subst hsp
      rw [add_lit] at hc
      simp only [List.getElem_map, List.getElem_range]
      have k := fun j u hu => hc j u hu
      simp only [add_lit] at k
      exact ⟨g, o, rfl, hlt, k 0 _ rfl, k 1 _ rfl, k 2 _ rfl, k 3 _ rfl, k 4 _ rfl⟩
    · intro e he
      obtain ⟨i, hi, rfl⟩ := List.mem_map.1 he
      exact (hE i (by simpa using hi)).2.1
    · intro e he
      obtain ⟨i, hi, rfl⟩ := List.mem_map.1 he
      obtain ⟨_, _, d1, d2, hd⟩ := hE i (by simpa using hi)
      exact ⟨d1, d2, List.mem_map.2 ⟨i, hi, hd⟩⟩
end
set_option maxRecDepth 100000 in
theorem sized_edits {H : Type} {ts : List TypeId} {ds : List (DataW H)} (h : (DataW.weightsEach Tryd.prog ts ds).all (· ≤ reachBytes) = true) {j : Nat} {elems spare : List (DataW H)} (ht : ts[j]? = some 25)
    (hd : ds[j]? = some (.slice elems spare)) : elems.length ≤ 140737488355328 ∧ ∀ (d1 d2 : DataW H) (bytes : List UInt8), .agg [d1, d2, .lit (.string bytes)] ∈ elems → bytes.length ≤ 140737488355328 := by
  have h3 : reachBytes = 140737488351232 := by decide
  have hb : Tryd.prog.bytesOf 56 = 48 := by kernel_rfl
  constructor
  · have := List.all_eq_true.1 h ((elems.length + spare.length) * Tryd.prog.bytesOf 56) (DataW.weights_mem_each ht hd _ (by
      simp only [DataW.weights, Tryd.underlying25]
      exact List.mem_cons_self ..))
    have h2 : (elems.length + spare.length) * Tryd.prog.bytesOf 56 ≤ reachBytes := by simpa using this
    rw [hb, h3] at h2
    omega
  · intro d1 d2 bytes hm
    have := List.all_eq_true.1 h bytes.length (DataW.weights_mem_each ht hd bytes.length (by
      simp only [DataW.weights, Tryd.underlying25]
      refine List.mem_cons_of_mem _ (List.mem_append_left _ (weights_all hm _ ?_))
      simp [DataW.weights, DataW.weightsEach, Tryd.underlying56]))
    have h2 : bytes.length ≤ reachBytes := by simpa using this
    omega
end Go.Proofs.YtcadfaecoldcpaaDoor
