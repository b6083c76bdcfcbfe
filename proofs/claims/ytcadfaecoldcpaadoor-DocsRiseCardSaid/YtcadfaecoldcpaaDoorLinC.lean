/-
  THE WALKS of package lines: Offset, Place. Conditions: stated at each.
-/
import Derived.Test.YtcadfaecoldcpaaDoorLinB
import Derived.Test.YtcadfaecoldcpaaDoorPl
import Derived.Laws.ResultCell
set_option linter.unusedVariables false
set_option linter.unusedSimpArgs false
namespace Go.Proofs.YtcadfaecoldcpaaDoor
open Go.RowKit Go.Lib Go.Shelf

theorem countP_at (L : List Int) (x : Int) (k : Nat) (hk : k ≤ L.length) (h1 : ∀ i, i < k → L.getD i 0 < x) (h2 : ∀ i, k ≤ i → i < L.length → x ≤ L.getD i 0) : L.countP (fun y => decide (y < x)) = k := by
  have e : L = L.take k ++ L.drop k := (List.take_append_drop k L).symm
  rw [e, List.countP_append]
  have a : (L.take k).countP (fun y => decide (y < x)) = (L.take k).length := by
    rw [List.countP_eq_length]
    intro y hy
    obtain ⟨i, hi, rfl⟩ := List.mem_iff_getElem.1 hy
    rw [List.length_take] at hi
    have := h1 i (by omega)
    rw [List.getD_eq_getElem?_getD, List.getElem?_eq_getElem (by omega)] at this
    rw [List.getElem_take]
    simpa using this
  have b : (L.drop k).countP (fun y => decide (y < x)) = 0 := by
    rw [List.countP_eq_zero]
    intro y hy
    obtain ⟨i, hi, rfl⟩ := List.mem_iff_getElem.1 hy
    rw [List.length_drop] at hi
    have := h2 (k + i) (by omega) (by omega)
    rw [List.getD_eq_getElem?_getD, List.getElem?_eq_getElem (by omega)] at this
    rw [List.getElem_drop]
    simp only [Option.getD_some] at this
    simp only [decide_eq_true_eq]
    omega
  rw [a, b, List.length_take]
  omega
def zsL (l : List UInt8) : List Int := (startsL l).map fun x : Nat => (x : Int)
theorem zsL_length (l : List UInt8) : (zsL l).length = nLines l := by unfold zsL; rw [List.length_map]; exact starts_length l
theorem zsL_get (l : List UInt8) (i : Nat) (hi : i < nLines l) : (zsL l).getD i 0 = (startN l i : Nat) := by
  have h : i < (startsL l).length := by rw [starts_length]; exact hi
  unfold zsL startN
  rw [List.getD_eq_getElem?_getD, List.getElem?_map, List.getElem?_eq_getElem h, List.getD_eq_getElem?_getD, List.getElem?_eq_getElem h]
  rfl
theorem bs_line {l : List UInt8} {x n : Nat} (h : OnLine l x n) :
    ((zsL l).contains (x : Int) = true ∧ (zsL l).countP (fun y => decide (y < (x : Int))) = n) ∨ ((zsL l).contains (x : Int) = false ∧ (zsL l).countP (fun y => decide (y < (x : Int))) = n + 1) := by
  have hN := zsL_length l
  have hlt := h.lt
  by_cases hx : startN l n = x
  · refine .inl ⟨?_, countP_at _ _ n (by omega) (fun i hi => ?_) (fun i hi hi2 => ?_)⟩
    · rw [List.contains_iff_mem, List.mem_iff_getElem]
      refine ⟨n, by omega, ?_⟩
      have := zsL_get l n hlt
      rw [List.getD_eq_getElem?_getD, List.getElem?_eq_getElem (by omega)] at this
      simp only [Option.getD_some] at this
      omega
    · rw [zsL_get l i (by omega)]
      have := startN_lt l hlt hi
      omega
    · rw [zsL_get l i (by omega)]
      rcases Nat.lt_or_ge n i with h1 | h1
      · have := startN_lt l (i := n) (j := i) (by omega) h1
        omega
      · rw [show i = n by omega]
        omega
  · have hge := h.ge
    refine .inr ⟨?_, countP_at _ _ (n + 1) (by omega) (fun i hi => ?_) (fun i hi hi2 => ?_)⟩
    · rw [Bool.eq_false_iff]
      intro hc
      rw [List.contains_iff_mem, List.mem_iff_getElem] at hc
      obtain ⟨i, hi, he⟩ := hc
      have := zsL_get l i (by omega)
      rw [List.getD_eq_getElem?_getD, List.getElem?_eq_getElem hi] at this
      simp only [Option.getD_some] at this
      have h2 : OnLine l x i := ⟨by omega, by omega, by omega⟩
      have := h2.uniq h
      subst this
      omega
    · rw [zsL_get l i (by omega)]
      rcases Nat.lt_or_ge i n with h1 | h1
      · have := startN_lt l hlt h1
        omega
      · rw [show i = n by omega]
        omega
    · rw [zsL_get l i (by omega)]
      have := h.before (m := i) (by omega) (by omega)
      omega
/-- A struct of two cells that a call begins with lies as it was laid. -/
theorem box2 {w w' : World} {v0 v1 : Value} {t : TypeId} (h : Below (w.alloc (.cells #[v0, v1] t)).heap.size (w.alloc (.cells #[v0, v1] t)) w') :
    w'.cell? ⟨w.heap.size, 0, none⟩ = some v0 ∧ w'.cell? ⟨w.heap.size, 1, none⟩ = some v1 ∧ Below w.heap.size w w' := by
  have e := heap_alloc_new w (.cells #[v0, v1] t)
  refine ⟨(h.cell (p := ⟨w.heap.size, 0, none⟩) (by simp)).trans ?_, (h.cell (p := ⟨w.heap.size, 1, none⟩) (by simp)).trans ?_, ((Below.refl w.heap.size w).alloc (Nat.le_refl _) _).trans (h.mono (by simp))⟩
  · rw [cell_of_row _ _ 0 _ _ _ e]; rfl
  · rw [cell_of_row _ _ 1 _ _ _ e]; rfl
theorem box2f {w w' : World} {v0 v1 : Value} {t : TypeId} (h : Below (w.alloc (.cells #[v0, v1] t)).heap.size (w.alloc (.cells #[v0, v1] t)) w') : w'.frozen? ⟨w.heap.size, 0, none⟩ = false ∧ w'.frozen? ⟨w.heap.size, 1, none⟩ = false := by
  have e := heap_alloc_new w (.cells #[v0, v1] t)
  refine ⟨(h.frozen (p := ⟨w.heap.size, 0, none⟩) (by simp)).trans ?_, (h.frozen (p := ⟨w.heap.size, 1, none⟩) (by simp)).trans ?_⟩
  · unfold World.frozen?
    simp only [e]
    simp
  · unfold World.frozen?
    simp only [e]
    simp
theorem box2h {w w' : World} {v0 v1 : Value} {t : TypeId} (h : Below (w.alloc (.cells #[v0, v1] t)).heap.size (w.alloc (.cells #[v0, v1] t)) w') : w'.heap[w.heap.size]? = some (.cells #[v0, v1] t) :=
  (h.block w.heap.size (by simp)).trans (heap_alloc_new w _)
theorem set2 {w : World} {g : Nat} {v0 v1 u0 u1 : Value} {t : TypeId} (h : w.heap[g]? = some (.cells #[v0, v1] t)) :
    ((w.setCell ⟨g, 0, none⟩ u0).setCell ⟨g, 1, none⟩ u1).cell? ⟨g, 0, none⟩ = some u0 ∧ ((w.setCell ⟨g, 0, none⟩ u0).setCell ⟨g, 1, none⟩ u1).cell? ⟨g, 1, none⟩ = some u1 := by
  have h1 : (w.setCell ⟨g, 0, none⟩ u0).heap[g]? = some (.cells #[u0, v1] t) := by
    rw [show (w.setCell ⟨g, 0, none⟩ u0).heap[g]? = _ from Array.getElem?_modify .., if_pos rfl, h]
    rfl
  have h2 : ((w.setCell ⟨g, 0, none⟩ u0).setCell ⟨g, 1, none⟩ u1).heap[g]? = some (.cells #[u0, u1] t) := by
    rw [show ((w.setCell ⟨g, 0, none⟩ u0).setCell ⟨g, 1, none⟩ u1).heap[g]? = _ from Array.getElem?_modify .., if_pos rfl, h1]
    rfl
  exact ⟨by rw [cell_of_row _ _ 0 _ _ _ h2]; rfl, by rw [cell_of_row _ _ 1 _ _ _ h2]; rfl⟩
theorem below_set {w w' : World} {g : Nat} (h : Below w.heap.size w w') (hg : w.heap.size ≤ g) (u0 u1 : Value) : Below w.heap.size w ((w'.setCell ⟨g, 0, none⟩ u0).setCell ⟨g, 1, none⟩ u1) := (h.setCell hg _).setCell hg _
theorem bal (w : World) (o : Obj) : Below w.heap.size w (w.alloc o) := (Below.refl w.heap.size w).alloc (Nat.le_refl _) _
theorem line_size (s : ByteArray) (n : Nat) (h : n < nLines s.data.toList) : startN s.data.toList n + (lineB s n).size ≤ s.size := by
  have := (lineN_at s.data.toList h).2
  rw [size_eq, lineB_data, size_eq]
  exact this
theorem Ix.cells {w : World} {b : Nat} {s : ByteArray} (h : Ix w b s) : ∃ g c, w.cell? ⟨b, 0, none⟩ = some (.string s) ∧ w.cell? ⟨b, 1, none⟩ = some (.slice (some ⟨g, 0, none⟩) (nLines s.data.toList) c) ∧ RdI w (some ⟨g, 0, none⟩) (startsL s.data.toList) ∧
    ∀ k, k < nLines s.data.toList → w.cell? ⟨g, k, none⟩ = some (.int .i64 ((startN s.data.toList k : Nat) : Int)) := by
  obtain ⟨_, g, c, h0, h1, h2⟩ := h
  have e : (startsL s.data.toList).length = nLines s.data.toList := starts_length _
  refine ⟨g, c, h0, by rw [← e]; exact h1, h2, fun k hk => h2.cell0 (by omega)⟩

set_option maxRecDepth 100000 in
set_option maxHeartbeats 400000 in
theorem linOffset_nil (p q : Int) (w : World) :
    Calls Tryd.prog 65 #[.pointer none, .agg #[.int .i64 p, .int .i64 q]] w (Post2 (0, 1) w) := by
  have cL : ∀ w', _ := fun w' => linLine_nil p w'
  go_enter Tryd.func65, Tryd.ntmps65
  go_wp2_with (go_at_call 74; refine (cL _).mono ?_; rintro e w1 ⟨rfl, hb1⟩; obtain ⟨_, _, hb2⟩ := box2 hb1)
  go_ret2
  exact ⟨rfl, hb2⟩

set_option maxRecDepth 100000 in
set_option maxHeartbeats 400000 in
theorem linOffset_any (b : Nat) (s : ByteArray) (p q : Int) (w : World) (hs : s.size ≤ 16777216) (hv : validD s.data.toList = true) (hq : q ≤ 9223372036854775807) (hx : Ix w b s) (hE : Env w) :
    Calls Tryd.prog 65 #[.pointer (some ⟨b, 0, none⟩), .agg #[.int .i64 p, .int .i64 q]] w (Post2 (offP s.data.toList p q) w) := by
  by_cases hp : 0 ≤ p ∧ p < (nLines s.data.toList : Nat)
  · obtain ⟨n, rfl⟩ : ∃ n : Nat, p = n := ⟨p.toNat, by omega⟩
    have hn : n < nLines s.data.toList := by omega
    have hsz := line_size s n hn
    have cL : ∀ o : Obj, _ := fun o => linLine_right b s n (w.alloc o) hs (hx.below (bal w o)) (hE.below (bal w o)) hn
    have cO : ∀ w', Tabs w' → _ := fun w' hT => utfOffset_any (lineB s n) q w' (by omega) hq hT
    have hN : (nLines s.data.toList : Nat) ≤ 16777217 := by
      have := starts_le s.data.toList
      rw [starts_length, ← size_eq] at this
      unfold nLines
      omega
    cases ho : offL (lineN s.data.toList n) q with
    | some k =>
      have eP : offP s.data.toList n q = (startN s.data.toList n + k, 0) := by
        unfold offP
        rw [if_pos hp, Int.toNat_natCast, ho]
      have hk := (off_back _ (line_right _ hv n hn) q k ho).2
      have hkn := (offP_start s.data.toList hv n q _ eP).2.1
      have cO' : ∀ w', Tabs w' → Calls Tryd.prog 75 #[.string (lineB s n), .int .i64 q] w' (Lit2 (k : Nat) (0 : Nat) w') := fun w' hT => (cO w' hT).mono (post2_lit (by
        unfold offRes
        rw [lineB_data, if_pos (line_right _ hv n hn), ho]))
      rw [eP]
      obtain ⟨st, hst⟩ : ∃ st, st = startN s.data.toList n := ⟨_, rfl⟩
      have hcell : ∀ w', Below w.heap.size w w' → ∃ g c, w'.cell? ⟨b, 1, none⟩ = some (.slice (some ⟨g, 0, none⟩) (nLines s.data.toList) c) ∧ w'.cell? ⟨g, n, none⟩ = some (.int .i64 (st : Nat)) := by
        intro w' hb
        obtain ⟨g, c, _, h1, _, h3⟩ := (hx.below hb).cells
        exact ⟨g, c, h1, by rw [hst]; exact h3 n hn⟩
      rw [← hst] at hkn ⊢
      obtain ⟨N, hNN⟩ : ∃ N, N = nLines s.data.toList := ⟨_, rfl⟩
      rw [← hNN] at hn hcell hN
      have hlt : (n : Int) < (N : Int) := by omega
      rw [← size_eq] at hkn
      have hS : (st : Int) + (k : Int) ≤ 16777216 := by omega
      have HC := Lib.hid cO'
      have HX := Lib.hid hcell
      have HT := Lib.hid hE
      clear cO cO' eP ho hv hx hE hp hk hcell hNN hst hsz
      go_enter Tryd.func65, Tryd.ntmps65
      go_wp2_with (first
        | (go_at_call 74; refine (cL _).mono ?_; rintro e w1 ⟨rfl, hb1⟩; obtain ⟨hc0, hc1, hb1'⟩ := box2 hb1)
        | (go_at_call 75; refine (HC.out _ (HT.out.below hb1').1).mono ?_; rintro e w2 ⟨rfl, hb2⟩; replace hb2 := bth hb1 hb2; obtain ⟨hd0, hd1, hb2'⟩ := box2 hb2; obtain ⟨g, c, hg1, hg2⟩ := HX.out _ hb2'))
      go_quiet (fail)
      go_wp2
      go_ret2
      exact ⟨ret_int2 (by simp) rfl, hb2'.trans ⟨rfl, rfl, rfl, Nat.le_refl _, fun _ _ => rfl⟩⟩
    | none =>
      have eP : offP s.data.toList n q = (0, 51) := by
        unfold offP
        rw [if_pos hp, Int.toNat_natCast, ho]
      have cO' : ∀ w', Tabs w' → Calls Tryd.prog 75 #[.string (lineB s n), .int .i64 q] w' (Lit2 (0 : Nat) (12 : Nat) w') := fun w' hT => (cO w' hT).mono (post2_lit (by
        unfold offRes
        rw [lineB_data, if_pos (line_right _ hv n hn), ho]))
      rw [eP]
      have HC := Lib.hid cO'
      have HT := Lib.hid hE
      clear cO cO' eP ho hv hx hE hp hsz hN hn
      go_enter Tryd.func65, Tryd.ntmps65
      go_wp2_with (first
        | (go_at_call 74; refine (cL _).mono ?_; rintro e w1 ⟨rfl, hb1⟩; obtain ⟨hc0, hc1, hb1'⟩ := box2 hb1)
        | (go_at_call 75; refine (HC.out _ (HT.out.below hb1').1).mono ?_; rintro e w2 ⟨rfl, hb2⟩; replace hb2 := bth hb1 hb2; obtain ⟨hd0, hd1, hb2'⟩ := box2 hb2))
      go_ret2
      exact ⟨rfl, hb2'⟩
  · have cL : ∀ o : Obj, _ := fun o => linLine_wrong b s p (w.alloc o) (hx.below (bal w o)) hp
    have eP : offP s.data.toList p q = (0, 51) := by
      unfold offP
      rw [if_neg hp]
    rw [eP]
    clear eP hv hx hE hp
    go_enter Tryd.func65, Tryd.ntmps65
    go_wp2_with (go_at_call 74; refine (cL _).mono ?_; rintro e w1 ⟨rfl, hb1⟩; obtain ⟨hc0, hc1, hb1'⟩ := box2 hb1)
    go_ret2
    exact ⟨rfl, hb1'⟩

set_option maxRecDepth 100000 in
theorem load_place (w : World) (b : Nat) (v0 v1 : Value) (h0 : w.cell? ⟨b, 0, none⟩ = some v0) (h1 : w.cell? ⟨b, 1, none⟩ = some v1) : (loadVar 54 ⟨b, 0, none⟩).run Tryd.prog w = .ok (.agg #[v0, v1]) w := by
  go_simp
/-- A place, and the error. -/
def PlcPost (p : Nat × Nat × Nat) (w : World) (e : Ending) (w' : World) : Prop := e = .returned (.tuple #[.agg #[.int .i64 ((p.1 : Nat) : Int), .int .i64 ((p.2.1 : Nat) : Int)], .int .i64 ((p.2.2 : Nat) : Int)]) ∧ Below w.heap.size w w'

set_option maxRecDepth 100000 in
theorem ret_place {fn : Func} {p u : Tmp} {a : Act} {w w' : World} {pl : Nat × Nat × Nat} (h : fn.results = #[.cell p 54, .tmp u]) (hd : a.defers = []) {g : Nat} (hp : a.tmps.getD p undef = .pointer (some ⟨g, 0, none⟩))
    (h0 : w'.cell? ⟨g, 0, none⟩ = some (.int .i64 ((pl.1 : Nat) : Int))) (h1 : w'.cell? ⟨g, 1, none⟩ = some (.int .i64 ((pl.2.1 : Nat) : Int))) (hu : a.tmps.getD u undef = .int .i64 ((pl.2.2 : Nat) : Int)) (hb : Below w.heap.size w w') :
    bodyPost Tryd.prog fn (PlcPost pl w) .ret a w' := by
  refine bodyPost_ret (v := .tuple #[.agg #[.int .i64 ((pl.1 : Nat) : Int), .int .i64 ((pl.2.1 : Nat) : Int)], .int .i64 ((pl.2.2 : Nat) : Int)]) ?_ hd ⟨rfl, hb⟩
  rw [results_cell_tmp h, hp, hu, show (asAddr (.pointer (some ⟨g, 0, none⟩))).run Tryd.prog w' = .ok ⟨g, 0, none⟩ w' from rfl]
  show ((loadVar 54 ⟨g, 0, none⟩).run Tryd.prog w').andThen _ = _
  rw [load_place w' g _ _ h0 h1]
  rfl

end Go.Proofs.YtcadfaecoldcpaaDoor
