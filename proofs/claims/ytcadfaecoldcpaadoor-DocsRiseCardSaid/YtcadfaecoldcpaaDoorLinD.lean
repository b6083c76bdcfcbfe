/-
  THE WALK of the document.s Split: the lines of a text, in memory. Conditions: stated at each.
-/
import Derived.Test.YtcadfaecoldcpaaDoorLinC
import Derived.Lib.BufferMore
set_option linter.unusedVariables false
set_option linter.unusedSimpArgs false
namespace Go.Proofs.YtcadfaecoldcpaaDoor
open Go.RowKit Go.Lib Go.Shelf

theorem splitN_no : ∀ x : List UInt8, (∀ c ∈ x, c ≠ 10) → splitN x = [x] := by
  intro x
  induction x with
  | nil => intro _; rfl
  | cons c t ih =>
    intro h
    have h1 : c ≠ 10 := h c (by simp)
    have h2 := ih fun d hd => h d (by simp [hd])
    simp only [splitN, if_neg h1, h2]
/-- Lines, on the way: k bytes gone through, the lines D behind, the last one began at f. -/
structure SplitAt (l : List UInt8) (k f : Nat) (D : List (List UInt8)) : Prop where
  fk : f ≤ k
  kl : k ≤ l.length
  no : ∀ j, f ≤ j → j < k → l.getD j 0 ≠ 10
  eq : splitN l = D ++ splitN (l.drop f)
  len : D.length ≤ f
theorem SplitAt.zero (l : List UInt8) : SplitAt l 0 0 [] := ⟨Nat.le_refl _, Nat.zero_le _, fun j _ h => absurd h (by omega), by simp, Nat.le_refl _⟩
theorem mem_mid {l : List UInt8} {f k : Nat} (hk : k ≤ l.length) (h : ∀ j, f ≤ j → j < k → l.getD j 0 ≠ 10) : ∀ c ∈ (l.drop f).take (k - f), c ≠ 10 := by
  intro c hc
  obtain ⟨i, hi, rfl⟩ := List.mem_iff_getElem.1 hc
  rw [List.length_take, List.length_drop] at hi
  have := h (f + i) (by omega) (by omega)
  rw [List.getD_eq_getElem?_getD, List.getElem?_eq_getElem (by omega)] at this
  rw [List.getElem_take, List.getElem_drop]
  exact this
theorem SplitAt.step {l : List UInt8} {k f : Nat} {D : List (List UInt8)} (h : SplitAt l k f D) (hk : k < l.length) (hc : l.getD k 0 ≠ 10) : SplitAt l (k + 1) f D := by
  refine ⟨by have := h.fk; omega, by omega, fun j h1 h2 => ?_, h.eq, h.len⟩
  by_cases hj : j = k
  · subst hj; exact hc
  · exact h.no j h1 (by omega)
theorem SplitAt.line {l : List UInt8} {k f : Nat} {D : List (List UInt8)} (h : SplitAt l k f D) (hk : k < l.length) (hc : l.getD k 0 = 10) : SplitAt l (k + 1) (k + 1) (D ++ [(l.drop f).take (k - f)]) := by
  have hf := h.fk
  refine ⟨Nat.le_refl _, by omega, fun j h1 h2 => absurd h1 (by omega), ?_, by have := h.len; simp; omega⟩
  have e : l.drop f = (l.drop f).take (k - f) ++ 10 :: l.drop (k + 1) := by
    conv => lhs; rw [← List.take_append_drop (k - f) (l.drop f)]
    rw [List.drop_drop, show f + (k - f) = k by omega, drop_cons l 0 k hk, hc]
  have hm := mem_mid (by omega) h.no
  rw [h.eq, List.append_assoc, e, split_join, splitN_no _ hm, ← e]
theorem SplitAt.done {l : List UInt8} {k f : Nat} {D : List (List UInt8)} (h : SplitAt l k f D) (hk : l.length ≤ k) : splitN l = D ++ [l.drop f] := by
  have hf := h.fk
  have hl := h.kl
  rw [h.eq, splitN_no (l.drop f)]
  have := mem_mid hl h.no
  rw [List.take_of_length_le (by rw [List.length_drop]; omega)] at this
  exact this

/-- A cell of a row of the call's own is written. -/
theorem own_set {w : World} {base : Nat} {e : TypeId} {g n cap k : Nat} {xs : List Value} (h : w.ownsRow base e 1 (.slice (some ⟨g, 0, none⟩) n cap) n xs) (u : Value) : (w.setCell ⟨g, k, none⟩ u).ownsRow base e 1 (.slice (some ⟨g, 0, none⟩) n cap) n (xs.set k u) := by
  refine ⟨by rw [List.length_set]; exact h.1, ?_⟩
  rcases h.2 with ⟨h1, _⟩ | ⟨g', cap', cur, hv, hb', hg', h3, h4, h5, h6⟩
  · exact absurd h1 (by simp)
  · have hgg : g' = g ∧ cap' = cap := by
      injection hv with h1 h2 h3
      injection h1 with h1
      injection h1 with h1
      exact ⟨h1.symm, h3.symm⟩
    obtain ⟨rfl, rfl⟩ := hgg
    refine .inr ⟨g', cap', cur.setIfInBounds k u, rfl, hb', Lib.heap_setCell_same hg' u, h3, h4, by simpa using h5, ?_⟩
    rw [Array.toList_setIfInBounds, List.take_set, h6]
theorem own_cell {w : World} {base : Nat} {e : TypeId} {g n cap k : Nat} {xs : List Value} (h : w.ownsRow base e 1 (.slice (some ⟨g, 0, none⟩) n cap) n xs) (hk : k < n) : w.cell? ⟨g, k, none⟩ = some (xs.getD k undef) ∧ w.frozen? ⟨g, k, none⟩ = false := by
  have hl : k < xs.length := by have := h.1; omega
  refine ⟨?_, ?_⟩
  · have := World.ownsRow.cells h (g := g) rfl k (xs[k]) (List.getElem?_eq_getElem hl)
    rw [add_lit, Nat.zero_add] at this
    rw [this, List.getD_eq_getElem?_getD, List.getElem?_eq_getElem hl]
    rfl
  · rcases h.2 with ⟨h1, _⟩ | ⟨g', cap', cur, hv, hb', hg', _⟩
    · exact absurd h1 (by simp)
    · have hgg : g' = g := by
        injection hv with h1
        injection h1 with h1
        injection h1 with h1
        exact h1.symm
      subst hgg
      unfold World.frozen?
      simp only [hg']
      simp
def linesB (s : ByteArray) : List ByteArray := (splitN s.data.toList).map fun x => ⟨x.toArray⟩
theorem linesB_length (s : ByteArray) : (linesB s).length = nLines s.data.toList := by unfold linesB nLines; rw [List.length_map]
theorem linesB_get (s : ByteArray) (k : Nat) (h : k < nLines s.data.toList) : (linesB s).getD k ⟨#[]⟩ = lineB s k := by
  unfold linesB lineB lineN
  rw [List.getD_eq_getElem?_getD, List.getElem?_map, List.getElem?_eq_getElem h, List.getD_eq_getElem?_getD, List.getElem?_eq_getElem h]
  rfl
theorem linesB_of {s : ByteArray} {D : List ByteArray} (h : splitN s.data.toList = bytesOf D) : D = linesB s := by
  unfold linesB
  rw [h, List.map_map]
  conv => lhs; rw [← List.map_id D]
  rfl
/-- What Split lays, on the way. -/
structure SplRow (B : Nat) (w wr : World) (s : ByteArray) (k f g c : Nat) (D : List ByteArray) : Prop where
  own : wr.ownsRow B 9 1 (.slice (some ⟨g, 0, none⟩) (D.length + 1) c) (D.length + 1) ((D ++ [(⟨#[]⟩ : ByteArray)]).map Value.string)
  bel : Below B w wr
  at' : SplitAt s.data.toList k f (bytesOf D)
  hB : B ≤ w.heap.size
set_option maxRecDepth 100000 in
theorem eltStrs : EltOk Tryd.prog 58 9 1 16 := EltOk.of Tryd.underlying58 (show _ = some (some (.string ⟨#[]⟩), 1, 16) by kernel_rfl) rfl (by decide)

set_option maxRecDepth 100000 in
set_option maxHeartbeats 400000 in
theorem refSplit_any (s : ByteArray) (w : World) (hs : s.size ≤ 16777216) :
    Calls Tryd.prog 66 #[.string s] w (fun e w' => ∃ g c, e = .returned (.slice (some ⟨g, 0, none⟩) (linesB s).length c) ∧ RdS w' (some ⟨g, 0, none⟩) (linesB s) ∧ Below w.heap.size w w') := by
  go_enter Tryd.func66, Tryd.ntmps66
  go_wp2
  go_loopw [3, 4, 5] (fun a b d wr => ∃ (g c k f : Nat) (D : List ByteArray), a = .slice (some ⟨g, 0, none⟩) (D.length + 1) c ∧ b = .int .i64 f ∧ d = .int .i64 k ∧ SplRow w.heap.size w wr s k f g c D)
    (fun _ _ d _ => s.size - (RowKit.intOf d).toNat)
  case atStart =>
    refine ⟨w.heap.size, 1, 0, 0, [], rfl, rfl, rfl, ?_, bal w _, SplitAt.zero _, Nat.le_refl _⟩
    exact World.ownsRow_lit w #[.string ⟨#[]⟩] 1 (Nat.le_refl _) (by unfold maxLen; omega) rfl
  case round =>
    obtain ⟨g, c, k, f, D, rfl, rfl, rfl, hR⟩ := hrel
    have hbs := hR.bel.size
    have hkl := hR.at'.kl
    have hfk := hR.at'.fk
    have hDl := hR.at'.len
    rw [bytesOf, List.length_map] at hDl
    rw [← size_eq] at hkl
    have hB := hR.hB
    have hfz : (f : Int) ≤ (k : Int) := by omega
    have hkz' : (k : Int) ≤ (s.size : Int) := by omega
    have hfs : (f : Int) ≤ (s.size : Int) := by omega
    have hDz : (D.length : Int) < (D.length : Int) + 1 := by omega
    obtain ⟨hcl, hfr⟩ := own_cell (k := D.length) hR.own (by omega)
    obtain ⟨v0, hv0⟩ : ∃ v0, v0 = ((D ++ [(⟨#[]⟩ : ByteArray)]).map Value.string).getD D.length undef := ⟨_, rfl⟩
    rw [← hv0] at hcl
    clear hv0
    have HR := Lib.hid hR
    clear hR
    by_cases hk : k < s.size
    · have hkz : (k : Int) < (s.size : Int) := by omega
      by_cases hc : s.data.toList.getD k 0 = 10
      · have hby : (((s[k]'hk).toNat : Int) == 10) = true := by
          have h1 : s.data.toList.getD k 0 = s[k]'hk := UInt8.toNat_inj.1 (by_get s k hk)
          rw [← h1, hc]; rfl
        have hN := HR.out.at'.line (by rw [← size_eq]; exact hk) hc
        have HN := Lib.hid hN
        clear hN hc
        have hbel0 := HR.out.bel
        have hown0 := own_set (k := D.length) HR.out.own (.string (s.extract f k))
        have hX : ((D ++ [(⟨#[]⟩ : ByteArray)]).map Value.string).set D.length (.string (s.extract f k)) = (D ++ [s.extract f k]).map Value.string := by
          rw [List.map_append, List.set_append_right _ _ (by simp), List.map_append]
          simp
        rw [hX] at hown0
        have hge : w.heap.size ≤ g := (World.ownsRow.lt HR.out.own g rfl).1
        have hsz : (wr.setCell ⟨g, D.length, none⟩ (.string (s.extract f k))).heap.size = wr.heap.size := by simp [World.setCell]
        have hnew : ∀ j u, [Value.string ⟨#[]⟩][j]? = some u → ((wr.setCell ⟨g, D.length, none⟩ (.string (s.extract f k))).alloc (.cells #[.string ⟨#[]⟩] 9)).cell? ((⟨wr.heap.size, 0, none⟩ : Addr).add j) = some u := by
          have := cell_one_new (wr.setCell ⟨g, D.length, none⟩ (.string (s.extract f k))) (.string ⟨#[]⟩) 9
          rw [hsz] at this
          exact this
        have hb2 : Below w.heap.size w ((wr.setCell ⟨g, D.length, none⟩ (.string (s.extract f k))).alloc (.cells #[.string ⟨#[]⟩] 9)) := (hbel0.setCell hge _).alloc (by rw [hsz]; exact hbs) _
        have hb2s := hb2.size
        have HO := Lib.hid hown0
        have HB2 := Lib.hid hb2
        have HNW := Lib.hid hnew
        clear hown0 hX hbel0 hb2 hnew
        go_wp2_with (at_builtin; refine wpList_app _ eltStrs rfl (.tmp 26) (.tmp 27) rfl w.heap.size _ (D.length + 1) _ rfl (World.ownsRow.alloc HO.out _) ⟨wr.heap.size, 0, none⟩ 1 1 [.string ⟨#[]⟩] rfl rfl HNW.out one_cell_string (by omega) (maxLen_of (by omega)) (by omega) hb2s ?_; intro g4 c4 w2 hown2 hgr2 hat2 hlt2)
        go_roundw
        case rel =>
          refine ⟨g4, c4, k + 1, k + 1, D ++ [s.extract f k], by simp, by go_num, by go_num, ?_, ?_, ?_, hB⟩
          · simp only [List.length_append, List.length_cons, List.length_nil, List.map_append, List.map_cons, List.map_nil] at hown2 ⊢
            exact hown2
          · exact HB2.out.grown hgr2 hb2s fun j hj => (World.ownsRow.lt HR.out.own j hj).1
          · rw [bytesOf, List.map_append, List.map_cons, List.map_nil, extract_data]
            exact HN.out
        case measure => simp [RowKit.intOf]; omega
      · have hby : (((s[k]'hk).toNat : Int) == 10) = false := by
          have h1 : s.data.toList.getD k 0 = s[k]'hk := UInt8.toNat_inj.1 (by_get s k hk)
          rw [h1] at hc
          have h2 : (s[k]'hk).toNat ≠ 10 := fun h => hc (UInt8.toNat_inj.1 h)
          rw [beq_eq_false_iff_ne]
          omega
        have hN := HR.out.at'.step (by rw [← size_eq]; exact hk) hc
        have HN := Lib.hid hN
        clear hN hc
        go_wp2
        go_roundw
        case rel => exact ⟨g, c, k + 1, f, D, rfl, rfl, by go_num, HR.out.own, HR.out.bel, HN.out, hB⟩
        case measure => simp [RowKit.intOf]; omega
    · have hkz : (s.size : Int) ≤ (k : Int) := by omega
      have hD := HR.out.at'.done (by rw [← size_eq]; omega)
      have hown0 := own_set (k := D.length) HR.out.own (.string (s.extract f s.size))
      have hX : ((D ++ [(⟨#[]⟩ : ByteArray)]).map Value.string).set D.length (.string (s.extract f s.size)) = (D ++ [s.extract f s.size]).map Value.string := by
        rw [List.map_append, List.set_append_right _ _ (by simp), List.map_append]
        simp
      rw [hX] at hown0
      have hge : w.heap.size ≤ g := (World.ownsRow.lt HR.out.own g rfl).1
      have hL : D ++ [s.extract f s.size] = linesB s := linesB_of (by rw [bytesOf, List.map_append, List.map_cons, List.map_nil, ext_take]; exact hD)
      rw [hL] at hown0
      have hll : D.length + 1 = (linesB s).length := by rw [← hL]; simp
      rw [hll] at hown0
      have hLL := Lib.hid hll
      have HO := Lib.hid hown0
      have HB0 := Lib.hid (HR.out.bel.setCell (p := ⟨g, D.length, none⟩) hge (.string (s.extract f s.size)))
      clear hown0 hX hL hD hll
      go_wp2
      go_ret
      refine ⟨g, c, by rw [← hLL.out]; rfl, ?_, HB0.out⟩
      exact Rd.of_own HO.out
end Go.Proofs.YtcadfaecoldcpaaDoor
