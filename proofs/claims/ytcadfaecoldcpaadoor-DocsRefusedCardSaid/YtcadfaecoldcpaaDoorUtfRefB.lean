/-
  THE WALKS of the reference's places, Right, Units, find. Conditions: a text of at most 2^24 bytes.
-/
import Derived.Test.YtcadfaecoldcpaaDoorUtfRefA
import Derived.Test.YtcadfaecoldcpaaDoorPl
import Derived.Test.YtcadfaecoldcpaaDoorMem
set_option linter.unusedVariables false
namespace Go.Proofs.YtcadfaecoldcpaaDoor
open Go.RowKit Go.Lib

set_option maxRecDepth 100000 in
theorem eltInts : EltOk Tryd.prog 78 3 1 8 := EltOk.of Tryd.underlying78 (show _ = some (some (.int .i64 0), 1, 8) by kernel_rfl) rfl (by decide)

/-- The two rows that places makes: the call's own, apart. -/
abbrev PlRows (B : Nat) (w wr : World) (g1 c1 m1 : Nat) (xs1 : List Value) (g2 c2 m2 : Nat) (xs2 : List Value) : Prop :=
  Two B w wr 3 1 (.slice (some ⟨g1, 0, none⟩) m1 c1) m1 xs1 3 1 (.slice (some ⟨g2, 0, none⟩) m2 c2) m2 xs2
abbrev intsV (l : List Nat) : List Value := l.map fun x => Value.int .i64 (x : Nat)
def PlPost (l : List UInt8) (w : World) (e : Ending) (w' : World) : Prop :=
  Below w.heap.size w w' ∧
    ((validD l = true ∧ ∃ g1 c1 g2 c2, e = .returned (.tuple #[.slice (some ⟨g1, 0, none⟩) ((scals l).length + 1) c1, .slice (some ⟨g2, 0, none⟩) ((scals l).length + 1) c2, .bool true]) ∧
        PlRows w.heap.size w w' g1 c1 ((scals l).length + 1) (intsV (plB l)) g2 c2 ((scals l).length + 1) (intsV (plU l))) ∨
     (validD l = false ∧ e = .returned (.tuple #[.slice none 0 0, .slice none 0 0, .bool false])))

theorem ext_take (s : ByteArray) (k : Nat) : (s.extract k s.size).data.toList = s.data.toList.drop k := by
  rw [extract_data, List.take_of_length_le (by rw [List.length_drop, ← size_eq]; exact Nat.le_refl _)]
theorem ext_size (s : ByteArray) (a b : Nat) : (s.extract a b).size = min b s.size - a := by
  rw [size_eq, extract_data, List.length_take, List.length_drop, ← size_eq]
  omega
theorem PlAt.units {l : List UInt8} {k : Nat} {pre : List (Nat × Nat)} (h : PlAt l k pre) : sumL (pre.map (·.2)) ≤ 2 * pre.length := by
  have h1 : ∀ q ∈ pre, q.2 ≤ 2 := fun q hq => (scals_pos l q (by rw [← h.app]; exact List.mem_append_left _ hq)).2.2
  have h2 : ∀ r : List (Nat × Nat), (∀ q ∈ r, q.2 ≤ 2) → sumL (r.map (·.2)) ≤ 2 * r.length := by
    intro r
    induction r with
    | nil => intro _; exact Nat.le_refl _
    | cons x r ih =>
      intro h
      have a := h x (by simp)
      have b := ih (fun q hq => h q (by simp [hq]))
      simp only [List.map_cons, sumL_cons, List.length_cons]
      omega
  exact h2 pre h1
/-- The last unit's cell. -/
theorem last_cell {B : Nat} {w : World} {g c m : Nat} {l : List Nat} (h : w.ownsRow B 3 1 (.slice (some ⟨g, 0, none⟩) (m + 1) c) (m + 1) (intsV (psum 0 l))) (hm : l.length = m) :
    w.cell? ⟨g, m, none⟩ = some (.int .i64 ((sumL l : Nat) : Int)) := by
  have hl : (psum 0 l).length = m + 1 := by rw [psum_length, hm]
  rw [World.ownsRow.cellAt h _ (by omega), List.getElem?_map, List.getElem?_eq_getElem (by omega)]
  have := psum_last l 0
  rw [hm, List.getD_eq_getElem?_getD, List.getElem?_eq_getElem (by omega)] at this
  simp only [Option.getD_some, Nat.zero_add] at this
  simp only [Option.map_some, this]
theorem intsV_snoc (l : List Nat) (x : Nat) : intsV (psum 0 (l ++ [x])) = intsV (psum 0 l) ++ [.int .i64 ((sumL l + x : Nat) : Int)] := by
  rw [intsV, psum_snoc, List.map_append, Nat.zero_add]
  rfl

set_option maxRecDepth 100000 in
set_option maxHeartbeats 1000000 in
theorem places_any (s : ByteArray) (w : World) (hs : s.size ≤ 16777216) :
    Calls Tryd.prog 43 #[.string s] w (PlPost s.data.toList w) := by
  have hsl : s.data.toList.length ≤ s.size := by rw [size_eq]; exact Nat.le_refl _
  have hsl2 : s.size ≤ s.data.toList.length := by rw [size_eq]; exact Nat.le_refl _
  go_enter Tryd.func43, Tryd.ntmps43
  go_wp2
  go_loopw [5, 6, 7] (fun v1 v2 a wr => ∃ (g1 c1 g2 c2 k : Nat) (pre : List (Nat × Nat)), v1 = .slice (some ⟨g1, 0, none⟩) (pre.length + 1) c1 ∧ v2 = .slice (some ⟨g2, 0, none⟩) (pre.length + 1) c2 ∧ a = .int .i64 k ∧ PlAt s.data.toList k pre ∧
    PlRows w.heap.size w wr g1 c1 (pre.length + 1) (intsV (psum 0 (pre.map (·.1)))) g2 c2 (pre.length + 1) (intsV (psum 0 (pre.map (·.2))))) (fun _ _ a _ => s.size - (intOf a).toNat)
  case atStart =>
    refine ⟨w.heap.size, 1, w.heap.size + 1, 1, 0, [], rfl, rfl, rfl, PlAt.zero _, ?_, ?_, ?_, ?_, Nat.le_refl _⟩
    · exact World.ownsRow.alloc (World.ownsRow_lit w #[.int .i64 0] 1 (Nat.le_refl _) (by unfold maxLen; omega) rfl) _
    · have := World.ownsRow_lit (base := w.heap.size) (e := 3) (size := 1) (w.alloc (.cells #[.int .i64 0] 3)) #[.int .i64 0] 1 (by simp) (by unfold maxLen; omega) rfl
      rw [World.size_alloc] at this
      exact this
    · intro g hg h
      simp [Value.ownBlock] at hg h
      omega
    · exact ((Below.refl _ _).alloc (Nat.le_refl _) _).alloc (by simp) _
  case round =>
    obtain ⟨g1, c1, g2, c2, k, pre, rfl, rfl, rfl, hpl, hrows⟩ := hrel
    have hlen := hpl.len
    have hkl := hpl.le
    have hbs := hrows.bel.size
    by_cases hk : k < s.size
    · have hkz : (k : Int) < (s.size : Int) := by omega
      have hks : (s.extract k s.size).size ≤ 9223372036854775807 := by rw [ext_size]; omega
      have hk0 : 0 < (s.extract k s.size).size := by rw [ext_size]; omega
      have hkl' : k < s.data.toList.length := by omega
      have cS := scalar_any (s.extract k s.size) wr hk0 hks
      rw [ext_take] at cS
      clear hks hk0
      by_cases hv : (decodeL (s.data.toList.drop k)).1 = 65533 ∧ (decodeL (s.data.toList.drop k)).2 = 1
      · have hbad := hpl.bad hkl' hv
        have e0 : refScal (s.data.toList.drop k) = (0, 0) := by unfold refScal; rw [if_pos hv]
        rw [e0] at cS
        have HB := Lib.hid hbad
        have HP := Lib.hid hpl
        clear e0 hv hbad hpl
        go_wp2_with (go_at_call 50; refine cS.mono ?_; rintro e w1 ⟨rfl, rfl⟩)
        go_ret3
        exact ⟨hrows.bel, .inr ⟨HB.out, rfl⟩⟩
      · have hnx := hpl.next hkl' hv
        have e0 : refScal (s.data.toList.drop k) = decodeL (s.data.toList.drop k) := by unfold refScal; rw [if_neg hv]
        rw [e0] at cS
        have hw1 := decodeL_width (s.data.toList.drop k)
        have hr1 := decodeL_rune (s.data.toList.drop k)
        have hnl := hnx.le
        obtain ⟨c, hc⟩ : ∃ c, c = (decodeL (s.data.toList.drop k)).1 := ⟨_, rfl⟩
        obtain ⟨n, hn⟩ : ∃ n, n = (decodeL (s.data.toList.drop k)).2 := ⟨_, rfl⟩
        rw [← hc] at hr1 hnx cS
        rw [← hn] at hw1 hnl hnx cS
        have hU := hpl.units
        obtain ⟨X1, hX1⟩ : ∃ X1, X1 = intsV (psum 0 (pre.map (·.1))) := ⟨_, rfl⟩
        obtain ⟨X2, hX2⟩ : ∃ X2, X2 = intsV (psum 0 (pre.map (·.2))) := ⟨_, rfl⟩
        obtain ⟨U, hUe⟩ : ∃ U, U = sumL (pre.map (·.2)) := ⟨_, rfl⟩
        have hlast : ∀ (w' : World) (c' : Nat), w'.ownsRow w.heap.size 3 1 (.slice (some ⟨g2, 0, none⟩) (pre.length + 1) c') (pre.length + 1) X2 → w'.cell? ⟨g2, pre.length, none⟩ = some (.int .i64 (U : Nat)) := by
          intro w' c' h
          rw [hX2] at h
          rw [hUe]
          exact last_cell h (by simp)
        rw [← hUe] at hU
        rw [← hX1, ← hX2] at hrows
        have e1 : sumL (pre.map (·.1)) = k := hpl.sum
        have s1 := intsV_snoc (pre.map (·.1)) n
        have s2 := intsV_snoc (pre.map (·.2)) (unsOf c)
        rw [e1, ← hX1] at s1
        rw [← hUe, ← hX2] at s2
        have S1 := Lib.hid s1
        have S2 := Lib.hid s2
        have HX := Lib.hid hnx
        have HLAST := Lib.hid hlast
        clear hn hc e0 hv hnx hpl hX1 hX2 hUe hkl' hlast e1 s1 s2
        by_cases hcc : 65536 ≤ c
        all_goals
          first | have Hu : Hid (unsOf c = 2) := if_pos hcc | have Hu : Hid (unsOf c = 1) := if_neg hcc
          first | have hccz : (65536 : Int) ≤ (c : Int) := by omega | have hccz : decide ((65536 : Int) ≤ (c : Int)) = false := decide_eq_false (by omega)
          clear hcc
          go_wp2_with (first
            | (go_at_call 50; refine cS.mono ?_; rintro e w1 ⟨rfl, rfl⟩)
            | (at_builtin; refine wpList_app _ eltInts rfl (.tmp 35) (.tmp 44) rfl w.heap.size _ (pre.length + 1) X2 rfl (hrows1.alloc _).o2 ⟨w1.heap.size, 0, none⟩ 1 1 _ rfl rfl (cell_one_new _ _ _) one_cell_int (by omega) (maxLen_of (by omega)) (by omega) (by simp; omega) ?_; intro g4 c4 w2 hown2 hgr2 hat2 hlt2; have hrows2 := ((hrows1.alloc _).swap.app hown2 hgr2 hat2 (by simp)).swap; clear hown2 hgr2 hat2)
            | (at_builtin; refine wpList_app _ eltInts rfl (.tmp 31) (.tmp 33) rfl w.heap.size _ (pre.length + 1) X1 rfl (hrows.alloc _).o1 ⟨wr.heap.size, 0, none⟩ 1 1 _ rfl rfl (cell_one_new _ _ _) one_cell_int (by omega) (maxLen_of (by omega)) (by omega) (by simp; omega) ?_; intro g3 c3 w1 hown1 hgr1 hat1 hlt1; have hrows1 := (hrows.alloc _).app hown1 hgr1 hat1 (by simp); have hcell := HLAST.out _ _ hrows1.o2; have hs1 := hrows1.bel.size; clear hown1 hgr1 hat1))
          go_roundw
          case rel =>
            refine ⟨g3, c3, g4, c4, k + n, pre ++ [(n, unsOf c)], by simp, by simp, by go_num, HX.out, ?_⟩
            rw [List.map_append, List.map_append, List.map_cons, List.map_cons, List.map_nil, List.map_nil, S1.out, S2.out, List.length_append, Hu.out]
            exact hrows2
          case measure => simp [intOf]; omega
    · have hkz : (s.size : Int) ≤ (k : Int) := by omega
      obtain ⟨hv, rfl⟩ := hpl.end_ (by omega)
      have HV := Lib.hid hv
      clear hv hk
      go_wp2
      go_ret3
      exact ⟨hrows.bel, .inl ⟨HV.out, g1, c1, g2, c2, rfl, hrows⟩⟩
end Go.Proofs.YtcadfaecoldcpaaDoor
