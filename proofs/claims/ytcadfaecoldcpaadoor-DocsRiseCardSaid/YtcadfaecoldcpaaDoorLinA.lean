/-
  THE WALKS of package lines: New, Lines, Line: what they lay and answer. Conditions: stated at each.
-/
import Derived.Test.YtcadfaecoldcpaaDoorLawBase
import Derived.Test.YtcadfaecoldcpaaDoorPl
set_option linter.unusedVariables false
set_option linter.unusedSimpArgs false
namespace Go.Proofs.YtcadfaecoldcpaaDoor
open Go.RowKit Go.Lib Go.Shelf

theorem nlF_append : ∀ (x y : List UInt8) (a : Nat), nlF a (x ++ y) = nlF a x ++ nlF (a + x.length) y := by
  intro x
  induction x with
  | nil => intro y a; simp [nlF]
  | cons c r ih =>
    intro y a
    rw [List.cons_append]
    simp only [nlF, List.length_cons]
    rw [show a + (r.length + 1) = a + 1 + r.length by omega]
    by_cases h : c = 10
    · simp [h, ih]
    · simp [h, ih]
theorem starts_snoc (l : List UInt8) (k : Nat) (h : k < l.length) : startsL (l.take (k + 1)) = if l.getD k 0 = 10 then startsL (l.take k) ++ [k + 1] else startsL (l.take k) := by
  have e : l.take (k + 1) = l.take k ++ [l.getD k 0] := by
    rw [List.take_add_one, List.getD_eq_getElem?_getD, List.getElem?_eq_getElem h]
    rfl
  unfold startsL
  rw [e, nlF_append, List.length_take, Nat.min_eq_left (Nat.le_of_lt h), Nat.zero_add]
  simp only [nlF]
  by_cases hc : l.getD k 0 = 10
  · rw [if_pos hc, if_pos hc]; rfl
  · rw [if_neg hc, if_neg hc, List.append_nil]

theorem nlF_le : ∀ (l : List UInt8) (a : Nat), (nlF a l).length ≤ l.length := by
  intro l
  induction l with
  | nil => intro a; simp [nlF]
  | cons c r ih =>
    intro a
    simp only [nlF]
    split
    · have := ih (a + 1)
      simp only [List.length_cons]
      omega
    · have := ih (a + 1)
      simp only [List.length_cons]
      omega
theorem starts_le (l : List UInt8) : (startsL l).length ≤ l.length + 1 := by
  have := nlF_le l 0
  unfold startsL
  simp only [List.length_cons]
  omega
/-- A text's lines in memory: behind the pointer p the text, and where its lines begin. -/
def Ix (w : World) (b : Nat) (s : ByteArray) : Prop :=
  b < w.heap.size ∧ ∃ (g c : Nat), w.cell? ⟨b, 0, none⟩ = some (.string s) ∧ w.cell? ⟨b, 1, none⟩ = some (.slice (some ⟨g, 0, none⟩) (startsL s.data.toList).length c) ∧ RdI w (some ⟨g, 0, none⟩) (startsL s.data.toList)

/-- What New lays, on the way: the text's first k bytes. -/
structure NewAt (B b : Nat) (w wr : World) (s : ByteArray) (k : Nat) (g c : Nat) : Prop where
  own : OwnI wr B 3 (.slice (some ⟨g, 0, none⟩) (startsL (s.data.toList.take k)).length c) (startsL (s.data.toList.take k))
  box : wr.heap[b]? = some (.cells #[.string s, .slice (some ⟨g, 0, none⟩) (startsL (s.data.toList.take k)).length c] 122)
  ne : g ≠ b
  lt : b < wr.heap.size
  le : B ≤ b
  bel : Below B w wr
  hk : k ≤ s.size
  hB : B ≤ w.heap.size

theorem newAt_mid {B b g c g4 c4 n4 : Nat} {w wr w2 : World} {s : ByteArray} {l0 : List Nat} {x : List Value} {o : Obj} (hbox : wr.heap[b]? = some (.cells #[.string s, .slice (some ⟨g, 0, none⟩) l0.length c] 122)) (hlt : b < wr.heap.size) (hne : g ≠ b) (hbel : Below B w wr) (hB : B ≤ w.heap.size)
    (hown : OwnI wr B 3 (.slice (some ⟨g, 0, none⟩) l0.length c) l0)
    (h2 : w2.ownsRow B 3 1 (.slice (some ⟨g4, 0, none⟩) n4 c4) n4 x) (hgr : (wr.alloc o).grownBy w2 (Value.ownBlock (.slice (some ⟨g, 0, none⟩) l0.length c))) (hat : Value.ownBlock (.slice (some ⟨g, 0, none⟩) l0.length c) = some g4 ∨ g4 = (wr.alloc o).heap.size) :
    w2.heap[b]? = some (.cells #[.string s, .slice (some ⟨g, 0, none⟩) l0.length c] 122) ∧ g4 ≠ b ∧ b < w2.heap.size ∧ Below B w w2 := by
  have h1 := hgr.size
  rw [World.size_alloc] at h1
  refine ⟨?_, ?_, by omega, ?_⟩
  · rw [hgr.block b (by rw [World.size_alloc]; omega) (by simp [Value.ownBlock]; omega), Below.heap_alloc _ _ _ hlt, hbox]
  · rcases hat with h | h
    · simp [Value.ownBlock] at h
      omega
    · rw [World.size_alloc] at h
      omega
  · have hbs := hbel.size
    refine (hbel.alloc (by omega) _).grown hgr (by rw [World.size_alloc]; omega) fun k hk => ?_
    exact (World.ownsRow.lt hown k hk).1

theorem newAt_set {B b g c g4 c4 k : Nat} {w w2 : World} {s : ByteArray} {l0 : List Nat} (hst : startsL (s.data.toList.take (k + 1)) = l0 ++ [k + 1])
    (h2 : w2.ownsRow B 3 1 (.slice (some ⟨g4, 0, none⟩) (l0.length + 1) c4) (l0.length + 1) (l0.map (fun x : Nat => Value.int .i64 (x : Int)) ++ [.int .i64 ((k : Int) + 1)]))
    (hbox2 : w2.heap[b]? = some (.cells #[.string s, .slice (some ⟨g, 0, none⟩) l0.length c] 122)) (hne : g4 ≠ b) (hlt : b < w2.heap.size) (hbel : Below B w w2) (hle : B ≤ b) (hk : k + 1 ≤ s.size) (hB : B ≤ w.heap.size) :
    NewAt B b w (w2.setCell ⟨b, 1, none⟩ (.slice (some ⟨g4, 0, none⟩) (l0.length + 1) c4)) s (k + 1) g4 c4 := by
  have e1 : (startsL (s.data.toList.take (k + 1))).length = l0.length + 1 := by rw [hst]; simp
  have e2 : (l0 ++ [k + 1]).map (fun x : Nat => Value.int .i64 (x : Int)) = l0.map (fun x : Nat => Value.int .i64 (x : Int)) ++ [.int .i64 ((k : Int) + 1)] := by simp
  refine ⟨?_, ?_, hne, ?_, hle, hbel.setCell hle _, hk, hB⟩
  · unfold OwnI
    rw [e1, hst, e2]
    exact h2.kept (row := some b) ⟨rfl, rfl, rfl, by simp [World.setCell], fun k _ hn => Below.heap_setCell _ _ _ _ (fun e => hn (by rw [e]))⟩ (.inr (by simp [Value.ownBlock]; omega))
  · rw [e1]
    rw [show (w2.setCell ⟨b, 1, none⟩ (.slice (some ⟨g4, 0, none⟩) (l0.length + 1) c4)).heap[b]? = _ from Array.getElem?_modify .., if_pos rfl, hbox2]
    rfl
  · simp [World.setCell]; exact hlt

set_option maxRecDepth 100000 in
set_option maxHeartbeats 400000 in
theorem linNew_right (s : ByteArray) (w : World) (hs : s.size ≤ 16777216) (hv : validD s.data.toList = true) (hT : Tabs w) :
    Calls Tryd.prog 64 #[.string s] w (fun e w' => ∃ b, e = .returned (.tuple #[.pointer (some ⟨b, 0, none⟩), .int .i64 0]) ∧ Ix w' b s ∧ w.heap.size ≤ b ∧ Below w.heap.size w w') := by
  have cR := right_any s w (by omega) hT
  rw [hv] at cR
  have HV := Lib.hid hv
  clear hv
  go_enter Tryd.func64, Tryd.ntmps64
  go_wp2_with (first
     | (go_at_call 41; refine cR.mono ?_; rintro e w1 ⟨rfl, hb1⟩))
  have hb1s := hb1.size
  go_loopw [15] (fun a wr => ∃ (g c k : Nat), a = .int .i64 k ∧ NewAt w.heap.size (w1.heap.size + 1) w wr s k g c)
    (fun a _ => s.size - (RowKit.intOf a).toNat)
  case atStart =>
    have e0 : startsL (s.data.toList.take 0) = [0] := rfl
    refine ⟨w1.heap.size, 1, 0, rfl, ?_, ?_, by omega, by simp, by omega, (hb1.alloc hb1s _).alloc (by simp; omega) _, by omega, Nat.le_refl _⟩
    · rw [e0]
      exact World.ownsRow.alloc (World.ownsRow_lit (base := w.heap.size) w1 #[.int .i64 0] 1 hb1s (by unfold maxLen; omega) rfl) _
    · rw [e0, show w1.heap.size + 1 = (w1.alloc (.cells #[.int .i64 0] 3)).heap.size by simp, heap_alloc_new]
      rfl
  case round => 
    obtain ⟨g, c, k, rfl, hN⟩ := hrel
    obtain ⟨hown, hbox, hne, hlt, hle, hbel, hkl, hB⟩ := hN
    have hbs := hbel.size
    by_cases hk : k < s.size
    · have hkz : (k : Int) < (s.size : Int) := by omega
      have hst := starts_snoc s.data.toList k (by rw [← size_eq]; exact hk)
      obtain ⟨l0, hl0⟩ : ∃ l0, l0 = startsL (s.data.toList.take k) := ⟨_, rfl⟩
      have hl1 := starts_le (s.data.toList.take k)
      rw [List.length_take, Nat.min_eq_left (by rw [← size_eq]; omega)] at hl1
      have hN := NewAt.mk hown hbox hne hlt hle hbel hkl hB
      rw [← hl0] at hst hown hbox hl1
      have hc1 : wr.cell? ⟨w1.heap.size + 1, 1, none⟩ = some (.slice (some ⟨g, 0, none⟩) l0.length c) := by
        rw [cell_of_row _ _ 1 _ _ _ hbox]; rfl
      by_cases hc : s.data.toList.getD k 0 = 10
      · rw [if_pos hc] at hst
        have hby : (((s[k]'hk).toNat : Int) == 10) = true := by
          have h1 : s.data.toList.getD k 0 = s[k]'hk := UInt8.toNat_inj.1 (by_get s k hk)
          rw [← h1, hc]; rfl
        have HST := Lib.hid hst
        have HN := Lib.hid hne
        clear hst hl0 hc hN
        go_wp2_with (at_builtin; refine wpList_app _ eltInts rfl (.tmp 26) (.tmp 29) rfl w.heap.size _ l0.length _ rfl (World.ownsRow.alloc hown _) ⟨wr.heap.size, 0, none⟩ 1 1 _ rfl rfl (cell_one_new _ _ _) one_cell_int (by omega) (maxLen_of (by omega)) (by omega) (by simp; omega) ?_; intro g4 c4 w2 hown2 hgr2 hat2 hlt2; have hN2 := newAt_mid hbox hlt hne hbel hB hown hown2 hgr2 hat2; obtain ⟨hbox2, hne2, hlt2', hbel2⟩ := hN2; have hc2 : w2.cell? ⟨w1.heap.size + 1, 1, none⟩ = some (.slice (some ⟨g, 0, none⟩) l0.length c) := (by rw [cell_of_row _ _ 1 _ _ _ hbox2]; rfl); have hf2 : w2.frozen? ⟨w1.heap.size + 1, 1, none⟩ = false := (by simp [World.frozen?, hbox2]); clear hgr2 hat2)
        go_roundw
        case rel =>
          refine ⟨g4, c4, k + 1, by go_num, ?_⟩
          have e1 : (s.data.toList.take (k + 1)).length = k + 1 := by rw [List.length_take, ← size_eq]; omega
          refine newAt_set HST.out hown2 hbox2 hne2 hlt2' hbel2 hle (by omega) hB
        case measure => simp [RowKit.intOf]; omega
      · rw [if_neg hc] at hst
        have hby : (((s[k]'hk).toNat : Int) == 10) = false := by
          have h1 : s.data.toList.getD k 0 = s[k]'hk := UInt8.toNat_inj.1 (by_get s k hk)
          rw [h1] at hc
          have h2 : (s[k]'hk).toNat ≠ 10 := fun h => hc (UInt8.toNat_inj.1 h)
          rw [beq_eq_false_iff_ne]
          omega
        have HST := Lib.hid hst
        have HN := Lib.hid hN
        have HL := Lib.hid hl0
        clear hst hl0 hc hne hN
        go_wp2
        go_roundw
        case rel =>
          refine ⟨g, c, k + 1, by go_num, ?_⟩
          have h := HN.out
          refine ⟨?_, ?_, h.ne, h.lt, h.le, h.bel, hk, h.hB⟩
          · rw [HST.out, HL.out]; exact h.own
          · rw [HST.out, HL.out]; exact h.box
        case measure => simp [RowKit.intOf]; omega
    · have hkz : (s.size : Int) ≤ (k : Int) := by omega
      have e1 : s.data.toList.take k = s.data.toList := List.take_of_length_le (by rw [← size_eq]; omega)
      rw [e1] at hown hbox
      have HO := Lib.hid hown
      have HB := Lib.hid hbox
      clear hown hbox hk hne e1
      go_wp2
      go_ret2
      refine ⟨w1.heap.size + 1, rfl, ⟨hlt, ?_⟩, hle, hbel⟩
      refine ⟨g, c, ?_, ?_, RdI.of_own HO.out⟩
      · rw [cell_of_row _ _ 0 _ _ _ HB.out]; rfl
      · rw [cell_of_row _ _ 1 _ _ _ HB.out]; rfl
set_option maxRecDepth 100000 in
theorem linNew_wrong (s : ByteArray) (w : World) (hs : s.size ≤ 16777216) (hv : ¬ validD s.data.toList = true) (hT : Tabs w) :
    Calls Tryd.prog 64 #[.string s] w (fun e w' => e = .returned (.tuple #[.pointer none, .int .i64 11]) ∧ Below w.heap.size w w') := by
  have cR := right_any s w (by omega) hT
  rw [Bool.eq_false_iff.2 hv] at cR
  clear hv
  go_enter Tryd.func64, Tryd.ntmps64
  go_wp2_with (first
     | (go_at_call 41; refine cR.mono ?_; rintro e w1 ⟨rfl, hb1⟩))
  go_ret2
  exact ⟨rfl, hb1⟩
theorem Ix.below {w w' : World} {b : Nat} {s : ByteArray} (h : Ix w b s) (hb : Below w.heap.size w w') : Ix w' b s := by
  obtain ⟨h1, g, c, h2, h3, h4⟩ := h
  have hs := hb.size
  exact ⟨by omega, g, c, (hb.cell (p := ⟨b, 0, none⟩) h1).trans h2, (hb.cell (p := ⟨b, 1, none⟩) h1).trans h3, h4.below hb⟩
/-- What the walks ask of the world: the two tables, and a variable of the library's. -/
def Env (w : World) : Prop := Tabs w ∧ ∃ m : Int, w.cell? ⟨2, 0, none⟩ = some (.int .i64 m)
theorem Env.below {w w' : World} (h : Env w) (hb : Below w.heap.size w w') : Env w' := by
  refine ⟨h.1.below hb, ?_⟩
  obtain ⟨m, hm⟩ := h.2
  refine ⟨m, (hb.cell ?_).trans hm⟩
  unfold World.cell? at hm
  show _ < _
  cases h1 : w.heap[(2 : Nat)]? with
  | none => rw [h1] at hm; simp at hm
  | some o => exact (Array.getElem?_eq_some_iff.1 h1).1
set_option maxRecDepth 100000 in
theorem linLine_nil (n : Int) (w : World) :
    Calls Tryd.prog 74 #[.pointer none, .int .i64 n] w (fun e w' => e = .returned (.tuple #[.string ⟨#[]⟩, .int .i64 1]) ∧ Below w.heap.size w w') := by
  go_enter Tryd.func74, Tryd.ntmps74
  go_wp2
  go_ret2
  exact ⟨rfl, Below.refl _ _⟩
set_option maxRecDepth 100000 in
theorem linLine_wrong (b : Nat) (s : ByteArray) (n : Int) (w : World) (hx : Ix w b s) (hn : ¬ (0 ≤ n ∧ n < (nLines s.data.toList : Nat))) :
    Calls Tryd.prog 74 #[.pointer (some ⟨b, 0, none⟩), .int .i64 n] w (fun e w' => e = .returned (.tuple #[.string ⟨#[]⟩, .int .i64 51]) ∧ Below w.heap.size w w') := by
  obtain ⟨hb, g, c, h0, h1, h2⟩ := hx
  rw [starts_length] at h1
  obtain ⟨N, hN⟩ : ∃ N, N = nLines s.data.toList := ⟨_, rfl⟩
  rw [← hN] at hn
  rw [show (splitN s.data.toList).length = N from hN.symm] at h1
  clear hN
  by_cases h : n < 0
  · go_enter Tryd.func74, Tryd.ntmps74
    go_wp2
    go_ret2
    exact ⟨rfl, Below.refl _ _⟩
  · have hh : decide (n < 0) = false := decide_eq_false h
    have hh2 : (N : Int) ≤ n := by omega
    clear h hn
    go_enter Tryd.func74, Tryd.ntmps74
    go_wp2
    go_ret2
    exact ⟨rfl, Below.refl _ _⟩
end Go.Proofs.YtcadfaecoldcpaaDoor
