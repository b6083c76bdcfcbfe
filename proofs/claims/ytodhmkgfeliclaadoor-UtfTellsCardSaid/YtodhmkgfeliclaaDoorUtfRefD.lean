/-
  THE WALKS of the reference's Cut and Units. Conditions: texts of at most 2^24 bytes.
-/
import Derived.Test.YtodhmkgfeliclaaDoorUtfRefC
import Derived.Test.YtodhmkgfeliclaaDoorUtf4
set_option linter.unusedVariables false
set_option linter.unusedSimpArgs false
namespace Go.Proofs.YtodhmkgfeliclaaDoor
open Go.RowKit Go.Lib

def StrPost (s : ByteArray) (w : World) (e : Ending) (w' : World) : Prop := e = .returned (.string s) ∧ Below w.heap.size w w'
theorem ret_str {a b : ByteArray} (h : a = b) : Ending.returned (.string a) = .returned (.string b) := by rw [h]
theorem ext_empty (s : ByteArray) : s.extract 0 0 = ⟨#[]⟩ := by
  rw [extract_eq]
  simp
theorem lastLe_le (most : Int) (N : Nat) : ∀ (l : List Nat) (a : Nat), a ≤ N → (∀ y ∈ l, y ≤ N) → lastLe most l a ≤ N
  | [], a, h, _ => h
  | x :: r, a, h, hl => by
    simp only [lastLe, List.foldl_cons]
    have := lastLe_le most N r (if (x : Int) ≤ most then x else a) (by split; exact hl x (by simp); exact h) (fun y hy => hl y (by simp [hy]))
    simpa only [lastLe] using this
theorem psum_le : ∀ (l : List Nat) (a : Nat), ∀ y ∈ psum a l, y ≤ a + sumL l
  | [], a, y, h => by simp [psum] at h; simp; omega
  | x :: r, a, y, h => by
    simp only [psum, List.mem_cons] at h
    rw [sumL_cons]
    rcases h with rfl | h
    · omega
    · have := psum_le r (a + x) y h
      omega
theorem plB_le (l : List UInt8) : ∀ y ∈ plB l, y ≤ l.length := by
  intro y hy
  have := psum_le (wds l) 0 y hy
  rw [show sumL (wds l) = l.length from scals_sum l] at this
  omega
theorem take_snoc' (l : List Nat) (k : Nat) (h : k < l.length) : l.take (k + 1) = l.take k ++ [l.getD k 0] := by
  rw [List.take_succ_eq_append_getElem h, List.getD_eq_getElem?_getD, List.getElem?_eq_getElem h]
  rfl

set_option maxRecDepth 100000 in
set_option maxHeartbeats 400000 in
theorem refCut_any (s : ByteArray) (most : Int) (w : World) (hs : s.size ≤ 16777216) :
    Calls Tryd.prog 15 #[.string s, .int .i64 most] w (StrPost (s.extract 0 (cutN s.data.toList most)) w) := by
  have c := places_any s w hs
  have hll : s.data.toList.length ≤ s.size := by rw [size_eq]; exact Nat.le_refl _
  obtain ⟨l, hl⟩ : ∃ l, l = s.data.toList := ⟨_, rfl⟩
  rw [← hl] at c hll ⊢
  have HL := Lib.hid hl
  clear hl
  have hlen := scals_length_le l
  by_cases hv : validD l = true
  · have HRES : Hid (cutN l most = lastLe most (plB l) 0) := (cut_ref l hv most).symm
    have HV := Lib.hid hv
    clear hv
    obtain ⟨m, hm⟩ : ∃ m, m = (scals l).length := ⟨_, rfl⟩
    have HB : Hid ((plB l).length = m + 1) := by show _ = _; rw [plB_length, hm]
    have HM := Lib.hid hm
    rw [← hm] at hlen
    clear hm
    go_enter Tryd.func15, Tryd.ntmps15
    go_wp2_with (go_at_call 20; refine c.mono ?_; rintro e w1 ⟨hb, ⟨_, g1, c1, g2, c2, rfl, hrows⟩ | ⟨hv', rfl⟩⟩)
    · rw [← HM.out] at hrows ⊢
      have hc1 := hrows.cap1
      have hr := hrows.r1 HB.out
      have hle := plB_le l
      obtain ⟨P, hP⟩ : ∃ P, P = plB l := ⟨_, rfl⟩
      rw [← hP] at hr hle
      have HP := Lib.hid hP
      have HPL : Hid (P.length = m + 1) := by show _ = _; rw [HP.out]; exact HB.out
      have HLE := Lib.hid hle
      clear hP hrows hle
      go_wp2
      go_loop [8, 9] (fun out i => ∃ k : Nat, k ≤ m + 1 ∧ i = .int .i64 k ∧ out = .string (s.extract 0 (lastLe most (P.take k) 0))) (fun _ i => m + 1 - (intOf i).toNat)
      case atStart => exact ⟨0, by omega, rfl, by simp only [List.take_zero]; rw [show lastLe most [] 0 = 0 from rfl, ext_empty]⟩
      case round =>
        obtain ⟨k, hk, rfl, rfl⟩ := hrel
        by_cases hlt : k < m + 1
        · have hkl : k < P.length := by rw [HPL.out]; exact hlt
          have hcell := hr.cell0 hkl
          have hsn := take_snoc' P k hkl
          have hy := HLE.out _ (show P.getD k 0 ∈ P by rw [List.getD_eq_getElem?_getD, List.getElem?_eq_getElem hkl]; exact List.getElem_mem hkl)
          obtain ⟨y, hyy⟩ : ∃ y, y = P.getD k 0 := ⟨_, rfl⟩
          rw [← hyy] at hcell hsn hy
          have HSN := Lib.hid hsn
          have hltz : (k : Int) < (m : Int) + 1 := by omega
          have hyz : (y : Int) ≤ (s.size : Int) := by omega
          clear hsn hyy hkl hlt
          by_cases hm : (y : Int) ≤ most
          · have HN : Hid (lastLe most (P.take (k + 1)) 0 = y) := by show _ = _; rw [HSN.out, lastLe_snoc, if_pos hm]
            go_wp2
            go_round
            case rel => exact ⟨k + 1, by omega, by go_num, by rw [HN.out]⟩
            case measure => simp [intOf]; omega
          · have HN : Hid (lastLe most (P.take (k + 1)) 0 = lastLe most (P.take k) 0) := by show _ = _; rw [HSN.out, lastLe_snoc, if_neg hm]
            have hmz : decide ((y : Int) ≤ most) = false := decide_eq_false hm
            clear hm
            go_wp2
            go_round
            case rel => exact ⟨k + 1, by omega, by go_num, by rw [HN.out]⟩
            case measure => simp [intOf]; omega
        · have hltz : decide ((k : Int) < (m : Int) + 1) = false := decide_eq_false (by omega)
          have HN : Hid (lastLe most (P.take k) 0 = cutN l most) := by
            show _ = _
            rw [List.take_of_length_le (by rw [HPL.out]; omega), HRES.out, HP.out]
          clear hlt
          go_wp2
          go_ret
          exact ⟨ret_str (by rw [HN.out]), hb⟩
    · exact absurd (HV.out.symm.trans hv') (by decide)
  · have HRES : Hid (cutN l most = 0) := by show _ = _; unfold cutN; rw [if_neg (fun h => hv h.1)]
    have HV := Lib.hid hv
    clear hv
    go_enter Tryd.func15, Tryd.ntmps15
    go_wp2_with (go_at_call 20; refine c.mono ?_; rintro e w1 ⟨hb, ⟨hv', g1, c1, g2, c2, rfl, hrows⟩ | ⟨_, rfl⟩⟩)
    · exact absurd hv' HV.out
    · go_wp2
      go_loop [8, 9] (fun out i => out = .string ⟨#[]⟩ ∧ i = .int .i64 0) (fun _ _ => 0)
      case atStart => exact ⟨rfl, rfl⟩
      case round =>
        obtain ⟨rfl, rfl⟩ := hrel
        go_wp2
        go_ret
        exact ⟨ret_str (by rw [HRES.out, ext_empty]), hb⟩

/-- A slice of strings. -/
def RdS (w : World) (A : Option Addr) (l : List ByteArray) : Prop := Rd w 1 A l.length (l.map Value.string)
theorem RdS.below {w w' : World} {A : Option Addr} {l : List ByteArray} (h : RdS w A l) (hb : Below w.heap.size w w') : RdS w' A l := Rd.below h hb
theorem RdS.cell {w : World} {A : Option Addr} {l : List ByteArray} (h : RdS w A l) {k : Nat} (hk : k < l.length) : ∃ ad, A = some ad ∧ ad.block < w.heap.size ∧ w.cell? (ad.add k) = some (.string (l.getD k ⟨#[]⟩)) := by
  obtain ⟨ad, u, hA, hb, hx, hc⟩ := Rd.at1 h hk
  refine ⟨ad, hA, hb, ?_⟩
  rw [hc, ← hx, List.getElem?_map, List.getElem?_eq_getElem hk, List.getD_eq_getElem?_getD, List.getElem?_eq_getElem hk]
  rfl
abbrev bytesOf (l : List ByteArray) : List (List UInt8) := l.map fun s => s.data.toList
theorem drop_cons {α : Type} (l : List α) (d : α) (k : Nat) (h : k < l.length) : l.drop k = l.getD k d :: l.drop (k + 1) := by
  rw [List.drop_eq_getElem_cons h, List.getD_eq_getElem?_getD, List.getElem?_eq_getElem h]
  rfl

theorem places_right (s : ByteArray) (w : World) (hs : s.size ≤ 16777216) (hv : validD s.data.toList = true) :
    Calls Tryd.prog 20 #[.string s] w fun e w1 => ∃ g1 c1 g2 c2, e = .returned (.tuple #[.slice (some ⟨g1, 0, none⟩) ((scals s.data.toList).length + 1) c1, .slice (some ⟨g2, 0, none⟩) ((scals s.data.toList).length + 1) c2, .bool true]) ∧
        PlRows w.heap.size w w1 g1 c1 ((scals s.data.toList).length + 1) (intsV (plB s.data.toList)) g2 c2 ((scals s.data.toList).length + 1) (intsV (plU s.data.toList)) := by
  refine (places_any s w hs).mono ?_
  rintro e w1 ⟨hb, ⟨_, h⟩ | ⟨hv', rfl⟩⟩
  · exact h
  · exact absurd (hv.symm.trans hv') (by decide)
theorem places_wrong (s : ByteArray) (w : World) (hs : s.size ≤ 16777216) (hv : ¬ validD s.data.toList = true) :
    Calls Tryd.prog 20 #[.string s] w fun e w1 => e = .returned (.tuple #[.slice none 0 0, .slice none 0 0, .bool false]) ∧ Below w.heap.size w w1 := by
  refine (places_any s w hs).mono ?_
  rintro e w1 ⟨hb, ⟨hv', _⟩ | ⟨_, rfl⟩⟩
  · exact absurd hv' hv
  · exact ⟨rfl, hb⟩
/-- The last of the units' places. -/
theorem PlRows.last {B : Nat} {w wr : World} {g1 c1 g2 c2 m1 : Nat} {xs1 : List Value} {b : List UInt8} (h : PlRows B w wr g1 c1 m1 xs1 g2 c2 ((scals b).length + 1) (intsV (plU b))) :
    wr.cell? ⟨g2, (scals b).length, none⟩ = some (.int .i64 ((unitsL b : Nat) : Int)) := by
  have := (h.r2 (plU_length b)).cell0 (k := (scals b).length) (by rw [plU_length]; omega)
  rw [plU_last] at this
  exact this

set_option maxRecDepth 100000 in
set_option maxHeartbeats 400000 in
theorem refUnits_any (A : Option Addr) (c : Nat) (l : List ByteArray) (w : World) (hl : l.length ≤ 65536) (hss : ∀ s ∈ l, s.size ≤ 16777216) (hr : RdS w A l) :
    Calls Tryd.prog 18 #[.slice A l.length c] w (Post2 (unitsAll (bytesOf l) 0) w) := by
  have HS := Lib.hid hss
  clear hss
  go_enter Tryd.func18, Tryd.ntmps18
  go_wp2
  go_loopw [4, 5] (fun n i wr => ∃ k a : Nat, k ≤ l.length ∧ i = .int .i64 k ∧ n = .int .i64 a ∧ a ≤ k * 16777216 ∧ Below w.heap.size w wr ∧ unitsAll (bytesOf (l.drop k)) a = unitsAll (bytesOf l) 0) (fun _ i _ => l.length - (intOf i).toNat)
  case atStart => exact ⟨0, 0, by omega, rfl, rfl, by omega, Below.refl _ _, rfl⟩
  case round =>
    obtain ⟨k, a, hk, rfl, rfl, ha, hb, hu⟩ := hrel
    have hrr := hr.below hb
    by_cases hlt : k < l.length
    · have hltz : (k : Int) < (l.length : Int) := by omega
      obtain ⟨ad, rfl, had, hc⟩ := hrr.cell hlt
      rw [drop_cons l ⟨#[]⟩ k hlt] at hu
      have hmem : l.getD k ⟨#[]⟩ ∈ l := by rw [List.getD_eq_getElem?_getD, List.getElem?_eq_getElem hlt]; exact List.getElem_mem hlt
      have hsz := HS.out _ hmem
      obtain ⟨s, hs⟩ : ∃ s, s = l.getD k ⟨#[]⟩ := ⟨_, rfl⟩
      rw [← hs] at hc hu hsz
      have hu2 : (if validD s.data.toList = true then unitsAll (bytesOf (l.drop (k + 1))) (a + unitsL s.data.toList) else (0, 11)) = unitsAll (bytesOf l) 0 := hu
      clear hu hs hmem
      have cR := places_right s wr hsz
      have cW := places_wrong s wr hsz
      have hll : s.data.toList.length ≤ s.size := by rw [size_eq]; exact Nat.le_refl _
      have hul := unitsL_le s.data.toList
      generalize s.data.toList = b at cR cW hu2 hll hul
      by_cases hv : validD b = true
      · rw [if_pos hv] at hu2
        have cP := cR hv
        have HU := Lib.hid hu2
        clear hu2 hv cR cW
        have hlen := scals_length_le b
        go_wp2_with (go_at_call 20; refine cP.mono ?_; rintro e w1 ⟨g1, c1, g2, c2, rfl, hrows⟩; have hcell := hrows.last; have hc2 := hrows.cap2; have hb1 := hrows.bel; clear hrows; generalize (scals b).length = m at hcell hc2 hlen ⊢; generalize unitsL b = u at hcell HU hul)
        go_roundw
        case rel => exact ⟨k + 1, a + u, by omega, by go_num, by go_num, by omega, hb.trans (hb1.mono hb.size), HU.out⟩
        case measure => simp [intOf]; omega
      · rw [if_neg hv] at hu2
        have cP := cW hv
        have HU := Lib.hid hu2
        clear hu2 hv cR cW
        go_wp2_with (go_at_call 20; refine cP.mono ?_; rintro e w1 ⟨rfl, hb1⟩)
        go_ret2
        exact ⟨by rw [← HU.out]; rfl, hb.trans (hb1.mono hb.size)⟩
    · have hltz : (l.length : Int) ≤ (k : Int) := by omega
      rw [List.drop_of_length_le (by omega)] at hu
      have HU : Hid (unitsAll (bytesOf l) 0 = (a, 0)) := hu.symm
      clear hu hlt
      go_wp2
      go_ret2
      exact ⟨by rw [HU.out]; rfl, hb⟩
end Go.Proofs.YtodhmkgfeliclaaDoor
