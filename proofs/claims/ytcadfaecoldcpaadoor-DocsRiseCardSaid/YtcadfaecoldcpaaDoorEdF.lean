/-
  THE WALK of edits.Between. Conditions: stated at each.
-/
import Derived.Test.YtcadfaecoldcpaaDoorEdD
import Derived.Test.YtcadfaecoldcpaaDoorEdE
import Derived.Deep.CutBlock
import Derived.Deep.DeepCutAuto
set_option linter.unusedVariables false
set_option linter.unusedSimpArgs false
namespace Go.Proofs.YtcadfaecoldcpaaDoor
open Go.RowKit Go.Lib Go.Shelf

set_option maxRecDepth 100000 in
theorem load_edit (w : World) (b : Nat) (v : EdV) (h0 : w.cell? ⟨b, 0, none⟩ = some (.int .i64 v.fl)) (h1 : w.cell? ⟨b, 1, none⟩ = some (.int .i64 v.fu)) (h2 : w.cell? ⟨b, 2, none⟩ = some (.int .i64 v.tl)) (h3 : w.cell? ⟨b, 3, none⟩ = some (.int .i64 v.tu)) (h4 : w.cell? ⟨b, 4, none⟩ = some (.string v.t)) : (loadVar 56 ⟨b, 0, none⟩).run Tryd.prog w = .ok v.val w := by
  unfold EdV.val EdV.cells
  go_simp
/-- An edit, and the error. -/
def EdPost (v : EdV) (k : Nat) (w : World) (e : Ending) (w' : World) : Prop := e = .returned (.tuple #[v.val, .int .i64 (k : Nat)]) ∧ Below w.heap.size w w'
set_option maxRecDepth 100000 in
theorem ret_edit {fn : Func} {p u : Tmp} {a : Act} {w w' : World} {v : EdV} {k : Nat} (h : fn.results = #[.cell p 56, .tmp u]) (hd : a.defers = []) {g : Nat} (hp : a.tmps.getD p undef = .pointer (some ⟨g, 0, none⟩))
    (h0 : w'.cell? ⟨g, 0, none⟩ = some (.int .i64 v.fl)) (h1 : w'.cell? ⟨g, 1, none⟩ = some (.int .i64 v.fu)) (h2 : w'.cell? ⟨g, 2, none⟩ = some (.int .i64 v.tl)) (h3 : w'.cell? ⟨g, 3, none⟩ = some (.int .i64 v.tu)) (h4 : w'.cell? ⟨g, 4, none⟩ = some (.string v.t)) (hu : a.tmps.getD u undef = .int .i64 (k : Nat)) (hb : Below w.heap.size w w') :
    bodyPost Tryd.prog fn (EdPost v k w) .ret a w' := by
  refine bodyPost_ret (v := .tuple #[v.val, .int .i64 (k : Nat)]) ?_ hd ⟨rfl, hb⟩
  rw [results_cell_tmp h, hp, hu, show (asAddr (.pointer (some ⟨g, 0, none⟩))).run Tryd.prog w' = .ok ⟨g, 0, none⟩ w' from rfl]
  show ((loadVar 56 ⟨g, 0, none⟩).run Tryd.prog w').andThen _ = _
  rw [load_edit w' g v h0 h1 h2 h3 h4]
  rfl

/-- Two texts that a call keeps, and the cells of its result. -/
theorem boxes3 {w w' : World} {x y : Value} {C : Array Value} {t s : TypeId} (h : Below (((w.alloc (.cells #[x] t)).alloc (.cells #[y] t)).alloc (.cells C s)).heap.size (((w.alloc (.cells #[x] t)).alloc (.cells #[y] t)).alloc (.cells C s)) w') :
    w'.cell? ⟨w.heap.size, 0, none⟩ = some x ∧ w'.cell? ⟨w.heap.size + 1, 0, none⟩ = some y ∧ w'.heap[w.heap.size + 2]? = some (.cells C s) ∧ Below w.heap.size w w' ∧ w.heap.size + 3 ≤ w'.heap.size := by
  have h2 := bth (bal ((w.alloc (.cells #[x] t)).alloc (.cells #[y] t)) (.cells C s)) h
  have h1 := bth (bal (w.alloc (.cells #[x] t)) (.cells #[y] t)) h2
  have hs := h.size
  rw [World.size_alloc, World.size_alloc, World.size_alloc] at hs
  refine ⟨boxN h1 0 rfl, ?_, ?_, bth (bal w _) h1, hs⟩
  · have := boxN h2 0 (v := y) rfl
    rwa [World.size_alloc] at this
  · have := (h.block ((w.alloc (.cells #[x] t)).alloc (.cells #[y] t)).heap.size (by simp)).trans (heap_alloc_new _ _)
    rwa [World.size_alloc, World.size_alloc] at this

theorem five_cf {w : World} {g : Nat} {v0 v1 v2 v3 v4 : Value} {t : TypeId} (h : w.heap[g]? = some (.cells #[v0, v1, v2, v3, v4] t)) : (∀ k v, #[v0, v1, v2, v3, v4][k]? = some v → w.cell? ⟨g, k, none⟩ = some v) ∧ (∀ k, w.frozen? ⟨g, k, none⟩ = false) := by
  refine ⟨fun k v hk => by rw [cell_of_row _ _ k _ _ _ h]; exact hk, fun k => ?_⟩
  unfold World.frozen?
  simp only [h]
  simp

theorem set_get {w : World} {g k : Nat} {C : Array Value} {t : TypeId} {u : Value} (h : w.heap[g]? = some (.cells C t)) : (w.setCell ⟨g, k, none⟩ u).heap[g]? = some (.cells (C.setIfInBounds k u) t) := by
  rw [show (w.setCell ⟨g, k, none⟩ u).heap[g]? = _ from Array.getElem?_modify .., if_pos rfl, h]
  rfl
theorem set5 {w : World} {g : Nat} {v0 v1 v2 v3 v4 u0 u1 u2 u3 u4 : Value} {t : TypeId} (h : w.heap[g]? = some (.cells #[v0, v1, v2, v3, v4] t)) :
    (((((w.setCell ⟨g, 0, none⟩ u0).setCell ⟨g, 1, none⟩ u1).setCell ⟨g, 2, none⟩ u2).setCell ⟨g, 3, none⟩ u3).setCell ⟨g, 4, none⟩ u4).heap[g]? = some (.cells #[u0, u1, u2, u3, u4] t) :=
  set_get (set_get (set_get (set_get (set_get h))))
theorem drew_get (w : World) (g : Nat) : w.drew.heap[g]? = w.heap[g]? := rfl
theorem set5d {w : World} {g : Nat} {v0 v1 v2 v3 v4 u0 u1 u2 u3 u4 : Value} {t : TypeId} (h : w.heap[g]? = some (.cells #[v0, v1, v2, v3, v4] t)) :
    (((((w.setCell ⟨g, 0, none⟩ u0).setCell ⟨g, 1, none⟩ u1).setCell ⟨g, 2, none⟩ u2).setCell ⟨g, 3, none⟩ u3).setCell ⟨g, 4, none⟩ u4).drew.heap[g]? = some (.cells #[u0, u1, u2, u3, u4] t) := (drew_get _ _).trans (set5 h)
theorem below_set5 {w w' : World} {g : Nat} (h : Below w.heap.size w w') (hg : w.heap.size ≤ g) (u0 u1 u2 u3 u4 : Value) : Below w.heap.size w (((((w'.setCell ⟨g, 0, none⟩ u0).setCell ⟨g, 1, none⟩ u1).setCell ⟨g, 2, none⟩ u2).setCell ⟨g, 3, none⟩ u3).setCell ⟨g, 4, none⟩ u4) := ((((h.setCell hg _).setCell hg _).setCell hg _).setCell hg _).setCell hg _

def zeroV : EdV := ⟨0, 0, 0, 0, ⟨#[]⟩⟩
noncomputable def betV (a b : ByteArray) : EdV := ⟨((placeP a.data.toList (begN a.data.toList b.data.toList : Nat)).1 : Nat), ((placeP a.data.toList (begN a.data.toList b.data.toList : Nat)).2.1 : Nat), ((placeP a.data.toList ((a.data.toList.length - finR a.data.toList b.data.toList : Nat) : Int)).1 : Nat), ((placeP a.data.toList ((a.data.toList.length - finR a.data.toList b.data.toList : Nat) : Int)).2.1 : Nat), b.extract (begN a.data.toList b.data.toList) (b.size - finR a.data.toList b.data.toList)⟩

theorem by_inj {x y : List UInt8} {i j : Nat} : by_ x i = by_ y j ↔ x.getD i 0 = y.getD j 0 := by
  unfold by_
  exact UInt8.toNat_inj
theorem count_pre {a b : ByteArray} {c : Nat} (h : CountOk (by_ a.data.toList) (by_ b.data.toList) (min a.size b.size) c) : c = cpre a.data.toList b.data.toList := by
  obtain ⟨h1, h2, h3⟩ := h
  rw [size_eq, size_eq] at h1 h3
  refine (cpre_eq (by omega) (by omega) (fun k hk => by_inj.1 (h2 k hk)) ?_).symm
  rcases h3 with h3 | h3
  · omega
  · exact .inr (.inr fun h => h3 (by_inj.2 h))
theorem getD_rev_drop (l : List UInt8) (n k : Nat) (h : n + k < l.length) : (l.drop n).reverse.getD k 0 = l.getD (l.length - 1 - k) 0 := by
  rw [List.getD_eq_getElem?_getD, List.getElem?_reverse (by rw [List.length_drop]; omega), List.length_drop, List.getElem?_drop, List.getD_eq_getElem?_getD]
  congr 2
  omega
theorem count_suf {a b : ByteArray} {n c : Nat} (hn : n ≤ min a.size b.size) (h : CountOk (fun k => by_ a.data.toList (a.size - 1 - k)) (fun k => by_ b.data.toList (b.size - 1 - k)) (min a.size b.size - n) c) : c = cpre (a.data.toList.drop n).reverse (b.data.toList.drop n).reverse := by
  obtain ⟨h1, h2, h3⟩ := h
  rw [size_eq, size_eq] at h1 h3 hn
  rw [size_eq, size_eq] at h2
  refine (cpre_eq (by rw [List.length_reverse, List.length_drop]; omega) (by rw [List.length_reverse, List.length_drop]; omega) (fun k hk => ?_) ?_).symm
  · rw [getD_rev_drop _ _ _ (by omega), getD_rev_drop _ _ _ (by omega)]
    exact by_inj.1 (h2 k hk)
  · rw [List.length_reverse, List.length_reverse, List.length_drop, List.length_drop]
    rcases h3 with h3 | h3
    · omega
    · by_cases hc : c < min a.data.toList.length b.data.toList.length - n
      · rw [getD_rev_drop _ _ _ (by omega), getD_rev_drop _ _ _ (by omega)]
        exact .inr (.inr fun h => h3 (by_inj.2 h))
      · omega
theorem beg_down (la lb : List UInt8) (hva : validD la = true) (hvb : validD lb = true) {k : Nat} (hk : k ≤ cpre la lb) (h0 : 0 < k) (h : (k < la.length ∧ contB (la.getD k 0) = true) ∨ (k < lb.length ∧ contB (lb.getD k 0) = true)) : maxK (pOk la) k = maxK (pOk la) (k - 1) := by
  have hl := cpre_le la lb
  refine maxK_down _ h0 ?_
  cases hp : pOk la k with
  | false => rfl
  | true =>
    unfold pOk at hp
    rcases h with ⟨h1, h2⟩ | ⟨h1, h2⟩
    · have := ((start_nat la k).1 ((start_iff la hva k (by omega)).1 hp)).2 h1
      rw [h2] at this
      exact absurd this (by decide)
    · rw [(cpre_take la lb k (by omega) (by omega)).2 hk] at hp
      have := ((start_nat lb k).1 ((start_iff lb hvb k (by omega)).1 hp)).2 h1
      rw [h2] at this
      exact absurd this (by decide)
theorem beg_stay (la lb : List UInt8) (hva : validD la = true) {k : Nat} (hk : k ≤ cpre la lb) (h : k = 0 ∨ k = la.length ∨ contB (la.getD k 0) = false) : maxK (pOk la) k = k := by
  have hl := cpre_le la lb
  refine maxK_self _ ?_
  rcases h with h | h | h
  · exact .inl h
  · exact .inr ((start_iff la hva k (by omega)).2 ((start_nat la k).2 ⟨by omega, fun hx => by omega⟩))
  · exact .inr ((start_iff la hva k (by omega)).2 ((start_nat la k).2 ⟨by omega, fun _ => h⟩))
theorem fin_down (la : List UInt8) (n : Nat) (hv : validD (la.drop n) = true) {k : Nat} (hn : n ≤ la.length) (hk : k ≤ la.length - n) (h0 : 0 < k) (h : contB (la.getD (la.length - k) 0) = true) : maxK (qOk (la.drop n)) k = maxK (qOk (la.drop n)) (k - 1) := by
  refine maxK_down _ h0 ?_
  cases hp : qOk (la.drop n) k with
  | false => rfl
  | true =>
    unfold qOk at hp
    have := ((start_nat (la.drop n) _).1 ((drop_iff (la.drop n) hv _ (by omega)).1 hp)).2 (by rw [List.length_drop]; omega)
    rw [getD_drop', List.length_drop, show n + (la.length - n - k) = la.length - k by omega, h] at this
    exact absurd this (by decide)
theorem fin_stay (la : List UInt8) (n : Nat) (hv : validD (la.drop n) = true) {k : Nat} (hn : n ≤ la.length) (hk : k ≤ la.length - n) (h : k = 0 ∨ contB (la.getD (la.length - k) 0) = false) : maxK (qOk (la.drop n)) k = k := by
  refine maxK_self _ ?_
  rcases h with h | h
  · exact .inl h
  · refine .inr ((drop_iff (la.drop n) hv _ (by omega)).2 ((start_nat (la.drop n) _).2 ⟨by omega, fun hx => ?_⟩))
    rw [getD_drop', List.length_drop, show n + (la.length - n - k) = la.length - k by rw [List.length_drop] at hx; omega]
    exact h
theorem drop_beg (a b : List UInt8) (ha : validD a = true) : validD (a.drop (begN a b)) = true := by
  rw [← validD_append _ (a.drop (begN a b)) (begN_ok a b), List.take_append_drop]
  exact ha

end Go.Proofs.YtcadfaecoldcpaaDoor
