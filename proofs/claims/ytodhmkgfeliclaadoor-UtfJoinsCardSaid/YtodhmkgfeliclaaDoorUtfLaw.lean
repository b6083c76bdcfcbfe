/-
  THE WALKS of the statements of layer 1: alive, fits. Conditions: the library's two tables lie as its text lays them.
-/
import Derived.Test.YtodhmkgfeliclaaDoorUtfB
import Derived.Test.YtodhmkgfeliclaaDoorUtf5
set_option linter.unusedVariables false
set_option linter.unusedSimpArgs false
namespace Go.Proofs.YtodhmkgfeliclaaDoor
open Go.RowKit Go.Lib Go.Shelf

def Lit2 (a b : Int) (w : World) (e : Ending) (w' : World) : Prop := e = .returned (.tuple #[.int .i64 a, .int .i64 b]) ∧ Below w.heap.size w w'
theorem post2_lit {p : Nat × Nat} {a b : Nat} {w : World} (h : p = (a, b)) : ∀ e w', Post2 p w e w' → Lit2 (a : Nat) (b : Nat) w e w' := by
  rintro e w' ⟨rfl, hb⟩
  subst h
  exact ⟨rfl, hb⟩
theorem rdS_new (w : World) (l : List ByteArray) : RdS (w.alloc (.cells (l.map Value.string).toArray 9)) (some ⟨w.heap.size, 0, none⟩) l := by
  refine ⟨by simp, fun _ => ⟨_, rfl, by simp, fun j u hu => ?_⟩⟩
  rw [add_lit, Nat.zero_add, cell_of_row _ w.heap.size j _ _ (0, 0) (heap_alloc_new w _)]
  simpa using hu

set_option maxRecDepth 100000 in
set_option maxHeartbeats 400000 in
theorem alive01_any (w : World) (hT : Tabs w) : Calls Tryd.prog 7 #[] w (BoolPost true w) := by
  go_enter Tryd.func7, Tryd.ntmps7
  go_wp2_with fail
  have hT0 := hT.below ((Below.refl w.heap.size w).alloc (Nat.le_refl _) (.cells #[.string ⟨#[97, 215, 144]⟩, .string ⟨#[240, 159, 152, 128]⟩] 9))
  have c1 := (utfUnits_any (some ⟨w.heap.size, 0, none⟩) 2 [⟨#[97, 215, 144]⟩, ⟨#[240, 159, 152, 128]⟩] _ (by decide) (by decide) (rdS_new w _) hT0).mono (post2_lit (a := 4) (b := 0) (by decide +kernel))
  refine c1.mono ?_
  rintro e w1 ⟨rfl, hb1⟩
  have hT1 := hT0.below hb1
  clear c1
  go_wp2_with fail
  refine ((utfOffset_any _ 3 w1 (by decide) (by decide) hT1).mono (post2_lit (a := 5) (b := 0) (by decide +kernel))).mono ?_
  rintro e w2 ⟨rfl, hb2⟩
  have hT2 := hT1.below hb2
  go_wp2_with fail
  refine ((utfOffset_any _ 2 w2 (by decide) (by decide) hT2).mono (post2_lit (a := 0) (b := 12) (by decide +kernel))).mono ?_
  rintro e w3 ⟨rfl, hb3⟩
  have hT3 := hT2.below hb3
  go_wp2_with fail
  refine ((utfUnit_any _ 3 w3 (by decide) hT3).mono (post2_lit (a := 1) (b := 0) (by decide +kernel))).mono ?_
  rintro e w4 ⟨rfl, hb4⟩
  have hT4 := hT3.below hb4
  go_wp2_with fail
  have c5 := utfCut_any ⟨#[97, 230, 150, 135]⟩ 3 w4 (by decide) hT4
  rw [show cutN (⟨#[97, 230, 150, 135]⟩ : ByteArray).data.toList 3 = 1 by decide +kernel, show (⟨#[97, 230, 150, 135]⟩ : ByteArray).extract 0 1 = ⟨#[97]⟩ by decide +kernel] at c5
  refine c5.mono ?_
  rintro e w5 ⟨rfl, hb5⟩
  have hT5 := hT4.below hb5
  clear c5
  go_wp2_with fail
  have c6 := right_any ⟨#[192, 128]⟩ w5 (by decide) hT5
  rw [show validD (⟨#[192, 128]⟩ : ByteArray).data.toList = false by decide +kernel] at c6
  refine c6.mono ?_
  rintro e w6 ⟨rfl, hb6⟩
  clear c6
  go_wp2_with fail
  go_ret
  refine ⟨rfl, ?_⟩
  have h0 : Below w.heap.size w (w.alloc (.cells #[.string ⟨#[97, 215, 144]⟩, .string ⟨#[240, 159, 152, 128]⟩] 9)) := (Below.refl _ _).alloc (Nat.le_refl _) _
  have h1 := h0.trans (hb1.mono (by simp))
  have h2 := h1.trans (hb2.mono h1.size)
  have h3 := h2.trans (hb3.mono h2.size)
  have h4 := h3.trans (hb4.mono h3.size)
  have h5 := h4.trans (hb5.mono h4.size)
  exact h5.trans (hb6.mono h5.size)

theorem and255 (x : Int) : ∃ k : Nat, k ≤ 255 ∧ bits .and .i64 x 255 = (k : Int) := by
  refine ⟨(BitVec.ofInt 64 x).toNat &&& 255, Nat.and_le_right, ?_⟩
  have h1 : (BitVec.ofInt 64 x).toNat &&& 255 ≤ 255 := Nat.and_le_right
  show IntKind.i64.wrap (((BitVec.ofInt 64 x) &&& (BitVec.ofInt 64 255)).toNat : Int) = _
  rw [BitVec.toNat_and, show (BitVec.ofInt 64 255).toNat = 255 by decide, IntKind.wrap_i64]
  omega

/-- The texts that fits lets by. -/
def FitPost (l : List ByteArray) (w : World) (e : Ending) (w' : World) : Prop := ∃ b : Bool, e = .returned (.bool b) ∧ (b = true → l.length < 20 ∧ ∀ s ∈ l, s.size ≤ 400) ∧ w = w'
set_option maxRecDepth 100000 in
set_option maxHeartbeats 400000 in
theorem fits01_any (A : Option Addr) (c : Nat) (l : List ByteArray) (w : World) (hm : l.length ≤ 9223372036854775807) (hss : ∀ s ∈ l, s.size ≤ 140737488355328) (hr : RdS w A l) :
    Calls Tryd.prog 16 #[.slice A l.length c] w (FitPost l w) := by
  have HS := Lib.hid hss
  clear hss
  go_enter Tryd.func16, Tryd.ntmps16
  go_wp2
  go_loop [3, 4] (fun n i => ∃ k a : Nat, k ≤ l.length ∧ k ≤ 20 ∧ i = .int .i64 k ∧ n = .int .i64 a ∧ a ≤ 400 ∧ ∀ s ∈ l.take k, s.size ≤ a) (fun _ i => 20 - (Go.RowKit.intOf i).toNat)
  case atStart => exact ⟨0, 0, by omega, by omega, rfl, rfl, by omega, fun s hs => by simp at hs⟩
  case round =>
    obtain ⟨k, a, hk, hk2, rfl, rfl, ha, hall⟩ := hrel
    have HA := Lib.hid hall
    clear hall
    by_cases hlt : k < l.length
    · have hltz : (k : Int) < (l.length : Int) := by omega
      by_cases h20 : k < 20
      · have h20z : (k : Int) < 20 := by omega
        obtain ⟨ad, rfl, had, hc⟩ := hr.cell hlt
        have hmem : l.getD k ⟨#[]⟩ ∈ l := by rw [List.getD_eq_getElem?_getD, List.getElem?_eq_getElem hlt]; exact List.getElem_mem hlt
        have hsz := HS.out _ hmem
        obtain ⟨s, hs⟩ : ∃ s, s = l.getD k ⟨#[]⟩ := ⟨_, rfl⟩
        rw [← hs] at hc hsz
        have HSS := Lib.hid hs
        clear hs hmem
        by_cases hbig : 400 < a + s.size
        · have hbz : (400 : Int) < (a : Int) + (s.size : Int) := by omega
          go_wp2
          go_ret
          exact ⟨false, rfl, fun h => by simp at h, rfl⟩
        · have hbz : (a : Int) + (s.size : Int) ≤ 400 := by omega
          clear hbig
          go_wp2
          go_round
          case rel =>
            refine ⟨k + 1, a + s.size, by omega, by omega, by go_num, by go_num, by omega, fun t ht => ?_⟩
            rw [List.take_succ_eq_append_getElem hlt, List.mem_append] at ht
            rcases ht with ht | ht
            · have := HA.out t ht
              omega
            · have e : l[k] = s := by rw [HSS.out, List.getD_eq_getElem?_getD, List.getElem?_eq_getElem hlt]; rfl
              rw [e] at ht
              simp at ht
              subst ht
              omega
          case measure => simp [Go.RowKit.intOf]; omega
      · have h20z : decide ((k : Int) < 20) = false := decide_eq_false (by omega)
        have hgt : (20 : Int) ≤ (l.length : Int) := by omega
        clear h20
        go_wp2
        go_ret
        exact ⟨false, (by first | rfl | exact ret_bool' (decide_eq_false (by omega))), fun h => by simp at h, rfl⟩
    · have hltz : decide (k < l.length) = false := decide_eq_false hlt
      have HALL : Hid (∀ s ∈ l, s.size ≤ 400) := by
        intro s hs
        have := HA.out s (by rw [List.take_of_length_le (by omega)]; exact hs)
        omega
      clear hlt
      by_cases h20 : l.length < 20
      · have h20z : (l.length : Int) < 20 := by omega
        go_wp2
        go_ret
        exact ⟨true, (by first | rfl | exact ret_bool' (decide_eq_true (by omega))), fun _ => ⟨h20, HALL.out⟩, rfl⟩
      · have h20z : (20 : Int) ≤ (l.length : Int) := by omega
        clear h20
        go_wp2
        go_ret
        exact ⟨false, (by first | rfl | exact ret_bool' (decide_eq_false (by omega))), fun h => by simp at h, rfl⟩

theorem bth {w0 w1 w2 : World} (h : Below w0.heap.size w0 w1) (k : Below w1.heap.size w1 w2) : Below w0.heap.size w0 w2 := h.trans (k.mono h.size)

set_option maxRecDepth 100000 in
set_option maxHeartbeats 1000000 in
theorem utfTells_any (s : ByteArray) (unit x : Int) (w : World) (hs : s.size ≤ 140737488355328) (hu : unit ≤ 9223372036854775807) (hT : Tabs w) :
    Calls Tryd.prog 3 #[.string s, .int .i64 unit, .int .i64 x] w (BoolPost true w) := by
  by_cases h : s.size ≤ 400
  · have hz : (s.size : Int) ≤ 400 := by omega
    have c1 := utfOffset_any s unit w hs hu hT
    have c2 : ∀ w1, _ := fun w1 => refOffset_any s unit w1 (by omega)
    have c3 : ∀ w1, Tabs w1 → _ := fun w1 h1 => utfUnit_any s x w1 hs h1
    have c4 : ∀ w1, _ := fun w1 => refUnit_any s x w1 (by omega)
    have c5 : ∀ w1, Tabs w1 → _ := fun w1 h1 => right_any s w1 (by omega) h1
    have c6 : ∀ w1, _ := fun w1 => refRight_any s w1 (by omega)
    have c7 : ∀ w1, Tabs w1 → _ := fun w1 h1 => utfCut_any s x w1 hs h1
    have c8 : ∀ w1, _ := fun w1 => refCut_any s x w1 (by omega)
    generalize offRes s.data.toList unit = r1 at c1 c2
    generalize unitRes s.data.toList x = r2 at c3 c4
    generalize validD s.data.toList = r3 at c5 c6
    generalize s.extract 0 (cutN s.data.toList x) = r4 at c7 c8
    have C2 := Lib.hid c2
    have C3 := Lib.hid c3
    have C4 := Lib.hid c4
    have C5 := Lib.hid c5
    have C6 := Lib.hid c6
    have C7 := Lib.hid c7
    have C8 := Lib.hid c8
    clear c2 c3 c4 c5 c6 c7 c8
    go_enter Tryd.func3, Tryd.ntmps3
    go_wp2_with fail
    refine c1.mono ?_
    rintro e w1 ⟨rfl, hb1⟩
    have hT1 := hT.below hb1
    go_wp2_with fail
    refine (C2.out _).mono ?_
    rintro e w2 ⟨rfl, hb2⟩
    have hT2 := hT1.below hb2
    go_wp2_with fail
    refine (C3.out _ hT2).mono ?_
    rintro e w3 ⟨rfl, hb3⟩
    have hT3 := hT2.below hb3
    go_wp2_with fail
    refine (C4.out _).mono ?_
    rintro e w4 ⟨rfl, hb4⟩
    have hT4 := hT3.below hb4
    go_wp2_with fail
    refine (alive01_any _ hT4).mono ?_
    rintro e w5 ⟨rfl, hb5⟩
    have hT5 := hT4.below hb5
    go_wp2_with fail
    refine (C5.out _ hT5).mono ?_
    rintro e w6 ⟨rfl, hb6⟩
    have hT6 := hT5.below hb6
    go_wp2_with fail
    refine (C6.out _).mono ?_
    rintro e w7 ⟨rfl, hb7⟩
    have hT7 := hT6.below hb7
    go_wp2_with fail
    refine (C7.out _ hT7).mono ?_
    rintro e w8 ⟨rfl, hb8⟩
    go_wp2_with fail
    refine (C8.out _).mono ?_
    rintro e w9 ⟨rfl, hb9⟩
    go_wp2_with fail
    go_ret
    exact ⟨rfl, bth (bth (bth (bth (bth (bth (bth (bth hb1 hb2) hb3) hb4) hb5) hb6) hb7) hb8) hb9⟩
  · have hz : (400 : Int) < (s.size : Int) := by omega
    clear h
    go_enter Tryd.func3, Tryd.ntmps3
    go_wp2_with (go_at_call 7; refine (alive01_any _ hT).mono ?_; rintro e w5 ⟨rfl, hb5⟩)
    go_ret
    exact ⟨rfl, hb5⟩

set_option maxRecDepth 100000 in
set_option maxHeartbeats 1000000 in
theorem utfUnitsLaw_any (A : Option Addr) (c : Nat) (l : List ByteArray) (w : World) (hm : l.length ≤ 9223372036854775807) (hss : ∀ s ∈ l, s.size ≤ 140737488355328) (hr : RdS w A l) (hT : Tabs w) :
    Calls Tryd.prog 4 #[.slice A l.length c] w (BoolPost true w) := by
  have cF := fits01_any A c l w hm hss hr
  have HSS := Lib.hid hss
  clear hss
  go_enter Tryd.func4, Tryd.ntmps4
  go_wp2_with fail
  refine cF.mono ?_
  rintro e w1 ⟨b, rfl, hb, rfl⟩
  cases b with
  | false =>
    clear hb
    go_wp2_with (go_at_call 7; refine (alive01_any _ hT).mono ?_; rintro e w5 ⟨rfl, hb5⟩)
    go_ret
    exact ⟨rfl, hb5⟩
  | true =>
    obtain ⟨hlen, hsz⟩ := hb rfl
    have c1 := utfUnits_any A c l w (by omega) HSS.out hr hT
    have c2 : ∀ w1, Below w.heap.size w w1 → _ := fun w1 hb => refUnits_any A c l w1 (by omega) (fun s h => by have := hsz s h; omega) (hr.below hb)
    generalize unitsAll (bytesOf l) 0 = r1 at c1 c2
    have C2 := Lib.hid c2
    have HS := Lib.hid hsz
    clear c2 hsz hb
    go_wp2_with fail
    refine c1.mono ?_
    rintro e w1 ⟨rfl, hb1⟩
    have hT1 := hT.below hb1
    go_wp2_with fail
    refine (C2.out _ hb1).mono ?_
    rintro e w2 ⟨rfl, hb2⟩
    have hT2 := hT1.below hb2
    go_wp2_with fail
    refine (alive01_any _ hT2).mono ?_
    rintro e w3 ⟨rfl, hb3⟩
    go_wp2_with fail
    go_ret
    exact ⟨rfl, bth (bth hb1 hb2) hb3⟩

end Go.Proofs.YtodhmkgfeliclaaDoor
