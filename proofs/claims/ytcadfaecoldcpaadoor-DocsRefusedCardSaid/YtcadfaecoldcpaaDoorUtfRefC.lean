/-
  THE WALKS of the reference's find, Right, Offset, Unit, Units, Cut. Conditions: a text of at most 2^24 bytes.
-/
import Derived.Test.YtcadfaecoldcpaaDoorUtfRefB
import Derived.Test.YtcadfaecoldcpaaDoorPl
set_option linter.unusedVariables false
set_option linter.unusedSimpArgs false
namespace Go.Proofs.YtcadfaecoldcpaaDoor
open Go.RowKit Go.Lib

def findI (l : List Nat) (x : Int) : Int := match findF l x with | some k => (k : Int) | none => -1
theorem ret_int' {a b : Int} (h : a = b) : Ending.returned (.int .i64 a) = .returned (.int .i64 b) := by rw [h]
theorem ret_bool' {a b : Bool} (h : a = b) : Ending.returned (.bool a) = .returned (.bool b) := by rw [h]
theorem ret_int2 {a b c d : Int} (h : a = c) (k : b = d) : Ending.returned (.tuple #[.int .i64 a, .int .i64 b]) = .returned (.tuple #[.int .i64 c, .int .i64 d]) := by rw [h, k]

set_option maxRecDepth 100000 in
set_option maxHeartbeats 400000 in
theorem find_any (A : Option Addr) (c : Nat) (l : List Nat) (x : Int) (w : World) (hl : l.length ≤ 16777217) (hr : RdI w A l) :
    Calls Tryd.prog 76 #[.slice A l.length c, .int .i64 x] w fun e w' => e = .returned (.int .i64 (findI l x)) ∧ w = w' := by
  go_enter Tryd.func76, Tryd.ntmps76
  go_wp2
  go_loop [5] (fun i => ∃ k : Nat, k ≤ l.length ∧ i = .int .i64 k ∧ ∀ j, j < k → ((l.getD j 0 : Nat) : Int) ≠ x) (fun i => l.length - (intOf i).toNat)
  case atStart => exact ⟨0, Nat.zero_le _, rfl, fun j h => by omega⟩
  case round =>
    obtain ⟨k, hk, rfl, hb⟩ := hrel
    have HB := Lib.hid hb
    clear hb
    by_cases hlt : k < l.length
    · obtain ⟨ad, rfl, had, hc⟩ := hr.cell hlt
      have hltz : (k : Int) < (l.length : Int) := by omega
      obtain ⟨y, hy⟩ : ∃ y, y = l.getD k 0 := ⟨_, rfl⟩
      rw [← hy] at hc
      have HY := Lib.hid hy
      clear hy
      by_cases hx : (y : Int) = x
      · have hxb : ((y : Int) == x) = true := beq_iff_eq.2 hx
        have HX := Lib.hid hx
        clear hx
        go_wp2
        go_ret
        refine ⟨ret_int' ?_, rfl⟩
        unfold findI
        rw [findF_some hlt (by rw [← HY.out]; exact HX.out) HB.out]
      · have hxb : ((y : Int) == x) = false := beq_eq_false_iff_ne.2 hx
        have HX := Lib.hid hx
        clear hx
        go_wp2
        go_round
        case rel =>
          refine ⟨k + 1, by omega, by go_num, fun j hj => ?_⟩
          by_cases hjk : j < k
          · exact HB.out j hjk
          · obtain rfl : j = k := by omega
            rw [← HY.out]
            exact HX.out
        case measure => simp [intOf]; omega
    · have hltz : (l.length : Int) ≤ (k : Int) := by omega
      clear hlt
      go_wp2
      go_ret
      refine ⟨ret_int' ?_, rfl⟩
      unfold findI
      rw [findF_none (fun j hj => HB.out j (by omega))]

def BoolPost (b : Bool) (w : World) (e : Ending) (w' : World) : Prop := e = .returned (.bool b) ∧ Below w.heap.size w w'
set_option maxRecDepth 100000 in
set_option maxHeartbeats 400000 in
theorem refRight_any (s : ByteArray) (w : World) (hs : s.size ≤ 16777216) :
    Calls Tryd.prog 33 #[.string s] w (BoolPost (validD s.data.toList) w) := by
  have c := places_any s w hs
  generalize s.data.toList = l at c ⊢
  go_enter Tryd.func33, Tryd.ntmps33
  go_wp2_with (go_at_call 43; refine c.mono ?_; rintro e w1 ⟨hb, ⟨hv, g1, c1, g2, c2, rfl, hrows⟩ | ⟨hv, rfl⟩⟩)
  · have HV := Lib.hid hv
    clear hv
    go_wp2
    go_ret
    exact ⟨ret_bool' HV.out.symm, hb⟩
  · have HV := Lib.hid hv
    clear hv
    go_wp2
    go_ret
    exact ⟨ret_bool' HV.out.symm, hb⟩

def Post2 (p : Nat × Nat) (w : World) (e : Ending) (w' : World) : Prop := e = .returned (.tuple #[.int .i64 ((p.1 : Nat) : Int), .int .i64 ((p.2 : Nat) : Int)]) ∧ Below w.heap.size w w'
theorem ret_p2 {p : Nat × Nat} {a b : Int} (h : p = (a.toNat, b.toNat)) (ha : 0 ≤ a) (hb : 0 ≤ b) : Ending.returned (.tuple #[.int .i64 a, .int .i64 b]) = .returned (.tuple #[.int .i64 ((p.1 : Nat) : Int), .int .i64 ((p.2 : Nat) : Int)]) := by
  subst h
  exact ret_int2 (by simp; omega) (by simp; omega)
theorem PlRows.r1 {B : Nat} {w wr : World} {g1 c1 g2 c2 m1 m2 : Nat} {l1 : List Nat} {xs2 : List Value} (h : PlRows B w wr g1 c1 m1 (intsV l1) g2 c2 m2 xs2) (hm : l1.length = m1) : RdI wr (some ⟨g1, 0, none⟩) l1 := by
  subst hm
  exact Rd.of_own h.o1
theorem PlRows.r2 {B : Nat} {w wr : World} {g1 c1 g2 c2 m1 m2 : Nat} {l2 : List Nat} {xs1 : List Value} (h : PlRows B w wr g1 c1 m1 xs1 g2 c2 m2 (intsV l2)) (hm : l2.length = m2) : RdI wr (some ⟨g2, 0, none⟩) l2 := by
  subst hm
  exact Rd.of_own h.o2
theorem PlRows.cap1 {B : Nat} {w wr : World} {g1 c1 g2 c2 m1 m2 : Nat} {xs1 xs2 : List Value} (h : PlRows B w wr g1 c1 m1 xs1 g2 c2 m2 xs2) : m1 ≤ c1 := by
  rcases h.o1.2 with ⟨h', _⟩ | ⟨g', cap', cur, h', _, _, hnc, _⟩
  · cases h'
  · injection h' with _ _ hc
    omega
theorem PlRows.cap2 {B : Nat} {w wr : World} {g1 c1 g2 c2 m1 m2 : Nat} {xs1 xs2 : List Value} (h : PlRows B w wr g1 c1 m1 xs1 g2 c2 m2 xs2) : m2 ≤ c2 := by
  rcases h.o2.2 with ⟨h', _⟩ | ⟨g', cap', cur, h', _, _, hnc, _⟩
  · cases h'
  · injection h' with _ _ hc
    omega
theorem RdI.cell0 {w : World} {g : Nat} {l : List Nat} (h : RdI w (some ⟨g, 0, none⟩) l) {k : Nat} (hk : k < l.length) : w.cell? ⟨g, k, none⟩ = some (.int .i64 ((l.getD k 0 : Nat) : Int)) := by
  obtain ⟨ad, e, _, h⟩ := h.cell hk
  injection e with e
  subst e
  rw [add_lit, Nat.zero_add] at h
  exact h

set_option maxRecDepth 100000 in
set_option maxHeartbeats 400000 in
theorem refOffset_any (s : ByteArray) (u : Int) (w : World) (hs : s.size ≤ 16777216) :
    Calls Tryd.prog 67 #[.string s, .int .i64 u] w (Post2 (offRes s.data.toList u) w) := by
  have c := places_any s w hs
  have hll : s.data.toList.length ≤ s.size := by rw [size_eq]; exact Nat.le_refl _
  generalize s.data.toList = l at c hll ⊢
  have hlen := scals_length_le l
  have hlU := plU_length l
  have hlB := plB_length l
  obtain ⟨m, hm⟩ : ∃ m, m = (scals l).length := ⟨_, rfl⟩
  have HU : Hid ((plU l).length = m + 1) := by show _ = _; rw [hlU, hm]
  have HB : Hid ((plB l).length = m + 1) := by show _ = _; rw [hlB, hm]
  have HM := Lib.hid hm
  rw [← hm] at hlen
  clear hlU hlB hm
  by_cases hv : validD l = true
  · have hres : offRes l u = match findF (plU l) u with | some k => ((plB l).getD k 0, 0) | none => (0, 12) := by
      unfold offRes
      rw [if_pos hv, offL_find]
      cases findF (plU l) u <;> rfl
    have HRES := Lib.hid hres
    have HV := Lib.hid hv
    clear hres hv
    cases hf : findF (plU l) u with
    | none =>
      have HF := Lib.hid hf
      clear hf
      go_enter Tryd.func67, Tryd.ntmps67
      go_wp2_with (go_at_call 43; refine c.mono ?_; rintro e w1 ⟨hb, ⟨_, g1, c1, g2, c2, rfl, hrows⟩ | ⟨hv', rfl⟩⟩)
      · rw [← HM.out] at hrows ⊢
        have cF := find_any (some ⟨g2, 0, none⟩) c2 (plU l) u w1 (by have := HU.out; omega) (hrows.r2 HU.out)
        have e1 : findI (plU l) u = -1 := by unfold findI; rw [HF.out]
        rw [HU.out, e1] at cF
        clear e1
        go_wp2_with (go_at_call 76; refine cF.mono ?_; rintro e w1 ⟨rfl, rfl⟩)
        go_ret2
        exact ⟨ret_p2 (by rw [HRES.out, HF.out]; rfl) (by omega) (by omega), hb⟩
      · exact absurd (HV.out.symm.trans hv') (by decide)
    | some k =>
      have hk := (findF_lt hf).1
      have hk1 : k < m + 1 := by have := HU.out; omega
      have HF := Lib.hid hf
      clear hf hk
      go_enter Tryd.func67, Tryd.ntmps67
      go_wp2_with (go_at_call 43; refine c.mono ?_; rintro e w1 ⟨hb, ⟨_, g1, c1, g2, c2, rfl, hrows⟩ | ⟨hv', rfl⟩⟩)
      · rw [← HM.out] at hrows ⊢
        have hc1 := hrows.cap1
        have hc2 := hrows.cap2
        have cF := find_any (some ⟨g2, 0, none⟩) c2 (plU l) u w1 (by have := HU.out; omega) (hrows.r2 HU.out)
        have e1 : findI (plU l) u = (k : Int) := by unfold findI; rw [HF.out]
        rw [HU.out, e1] at cF
        have hcell := (hrows.r1 HB.out).cell0 (k := k) (by have := HB.out; omega)
        have hkz : (k : Int) < (m : Int) + 1 := by omega
        clear e1
        go_wp2_with (go_at_call 76; refine cF.mono ?_; rintro e w1 ⟨rfl, rfl⟩)
        go_ret2
        exact ⟨ret_p2 (by rw [HRES.out, HF.out]; simp) (by omega) (by omega), hb⟩
      · exact absurd (HV.out.symm.trans hv') (by decide)
  · have hv0 : validD l = false := by simpa using hv
    have HRES : Hid (offRes l u = (0, 11)) := by show _ = _; unfold offRes; rw [if_neg hv]
    have HV := Lib.hid hv
    clear hv hv0
    go_enter Tryd.func67, Tryd.ntmps67
    go_wp2_with (go_at_call 43; refine c.mono ?_; rintro e w1 ⟨hb, ⟨hv', g1, c1, g2, c2, rfl, hrows⟩ | ⟨_, rfl⟩⟩)
    · exact absurd hv' HV.out
    · go_wp2
      go_ret2
      exact ⟨ret_p2 (by rw [HRES.out]; rfl) (by omega) (by omega), hb⟩

end Go.Proofs.YtcadfaecoldcpaaDoor
