/-
  THE WALKS of the document's begins, finishes, Between. Conditions: stated at each.
-/
import Derived.Test.YtadkjeefiacdbaaDoorEdF
import Derived.Test.YtadkjeefiacdbaaDoorEdI
import Derived.Deep.QuietTactic
import Derived.BigQuiet
import Derived.Deep.CutBlock
set_option linter.unusedVariables false
set_option linter.unusedSimpArgs false
namespace Go.Proofs.YtadkjeefiacdbaaDoor
open Go.RowKit Go.Lib Go.Shelf

theorem str_ne (s t : ByteArray) (h : ¬ s = t) : (s.toList == t.toList) = false := by
  rw [beq_eq_false_iff_ne]
  intro h2
  exact h (data_inj (by simpa [ByteArray.toList_eq] using h2))
theorem bdN {B : Nat} {w w' : World} (h : Below B w w') (n : Nat) : Below B w (w'.drewN n) := h.trans ⟨rfl, rfl, rfl, Nat.le_refl _, fun _ _ => rfl⟩
theorem maxK_yes (p : Nat → Bool) {k : Nat} (h : p k = true) : maxK p k = k := maxK_self p (.inr h)
theorem maxK_no (p : Nat → Bool) {k : Nat} (h : p k = false) : maxK p k = maxK p (k - 1) := by
  cases k with
  | zero => rfl
  | succ k => exact maxK_down p (Nat.succ_pos k) h

set_option maxRecDepth 100000 in
set_option maxHeartbeats 1000000 in
theorem refBegins_any (a b : ByteArray) (w : World) (hsa : a.size ≤ 4194304) (hsb : b.size ≤ 4194304) :
    Calls Tryd.prog 44 #[.string a, .string b] w (fun e w' => e = .returned (.int .i64 (begN a.data.toList b.data.toList : Nat)) ∧ Below w.heap.size w w') := by
  obtain ⟨N, hN⟩ : ∃ N, N = cpre a.data.toList b.data.toList := ⟨_, rfl⟩
  have hle := cpre_le a.data.toList b.data.toList
  rw [← hN, ← size_eq, ← size_eq] at hle
  have hB : begN a.data.toList b.data.toList = maxK (pOk a.data.toList) N := by rw [hN]; rfl
  have hR : ∀ k w', k ≤ a.size → Calls Tryd.prog 13 #[.string (a.extract 0 k)] w' (BoolPost (pOk a.data.toList k) w') := fun k w' hk => by
    have := refRight_any (a.extract 0 k) w' (by rw [ByteArray.size_extract]; omega)
    rw [ext_zero] at this
    exact this
  have hQ : ∀ k, k ≤ a.size → k ≤ b.size → (((a.extract 0 k).toList == (b.extract 0 k).toList) = decide (k ≤ N)) := fun k h1 h2 => by
    have hc := cpre_take a.data.toList b.data.toList k (by rw [← size_eq]; exact h1) (by rw [← size_eq]; exact h2)
    rw [← hN] at hc
    by_cases hk : k ≤ N
    · rw [decide_eq_true hk]
      exact str_eq _ _ (data_inj (by rw [ext_zero, ext_zero]; exact hc.2 hk))
    · rw [decide_eq_false hk]
      exact str_ne _ _ fun h => hk (hc.1 (by rw [← ext_zero, ← ext_zero, h]))
  rw [hB]
  have HR := Lib.hid hR
  have HQ := Lib.hid hQ
  obtain ⟨hNa, hNb⟩ := hle
  clear hB hR hQ hN
  generalize pOk a.data.toList = p at HR ⊢
  go_enter Tryd.func44, Tryd.ntmps44
  go_wp2
  go_loopw [5, 6] (fun u v wr => ∃ k : Nat, u = .int .i64 (maxK p (k - 1) : Nat) ∧ v = .int .i64 k ∧ k ≤ N + 1 ∧ Below w.heap.size w wr) (fun _ v _ => N + 2 - (RowKit.intOf v).toNat)
  case atStart => exact ⟨0, rfl, rfl, by omega, Below.refl _ _⟩
  case round =>
    obtain ⟨k, rfl, rfl, hk, hbr⟩ := hrel
    by_cases h1 : k ≤ N
    · have hka : (k : Int) ≤ (a.size : Int) := by omega
      have hkb : (k : Int) ≤ (b.size : Int) := by omega
      have hq := HQ.out k (by omega) (by omega)
      rw [decide_eq_true h1] at hq
      have cR : ∀ w', _ := fun w' => HR.out k w' (by omega)
      cases hp : p k with
      | true =>
        rw [hp] at cR
        have HM := Lib.hid (maxK_yes p hp)
        have CR := Lib.hid cR
        clear hp cR
        go_upto_region 3 with (fail)
        go_quiet (fail)
        go_wp2_with (go_at_call 13; refine (CR.out _).mono ?_; rintro e w1 ⟨rfl, hb1⟩)
        go_roundw
        case rel => exact ⟨k + 1, by rw [Nat.add_sub_cancel, HM.out], by go_num, by omega, bth (bdN hbr _) hb1⟩
        case measure => simp [RowKit.intOf]; omega
      | false =>
        rw [hp] at cR
        have HM := Lib.hid (maxK_no p hp)
        have CR := Lib.hid cR
        clear hp cR
        go_upto_region 3 with (fail)
        go_quiet (fail)
        go_wp2_with (go_at_call 13; refine (CR.out _).mono ?_; rintro e w1 ⟨rfl, hb1⟩)
        go_roundw
        case rel => exact ⟨k + 1, by rw [Nat.add_sub_cancel, HM.out], by go_num, by omega, bth (bdN hbr _) hb1⟩
        case measure => simp [RowKit.intOf]; omega
    · have hkn : k - 1 = N := by omega
      by_cases h2 : k ≤ a.size
      · have h2z : (k : Int) ≤ (a.size : Int) := by omega
        by_cases h3 : k ≤ b.size
        · have h3z : (k : Int) ≤ (b.size : Int) := by omega
          have hq := HQ.out k h2 h3
          rw [decide_eq_false h1] at hq
          have HK := Lib.hid hkn
          clear hkn
          go_upto_region 3 with (fail)
          go_quiet (fail)
          go_wp2
          go_ret
          exact ⟨ret_int' (by rw [HK.out]), bdN hbr _⟩
        · have h3z : decide (k ≤ b.size) = false := decide_eq_false h3
          have HK := Lib.hid hkn
          clear hkn
          go_upto_region 3 with (fail)
          go_quiet (fail)
          go_wp2
          go_ret
          exact ⟨ret_int' (by rw [HK.out]), bdN hbr _⟩
      · have h2z : decide (k ≤ a.size) = false := decide_eq_false h2
        have HK := Lib.hid hkn
        clear hkn
        go_upto_region 3 with (fail)
        go_quiet (fail)
        go_wp2
        go_ret
        exact ⟨ret_int' (by rw [HK.out]), bdN hbr _⟩

set_option maxRecDepth 100000 in
set_option maxHeartbeats 1000000 in
theorem refFinishes_any (a b : ByteArray) (w : World) (hsa : a.size ≤ 4194304) (hsb : b.size ≤ 4194304) :
    Calls Tryd.prog 45 #[.string a, .string b] w (fun e w' => e = .returned (.int .i64 (finN a.data.toList b.data.toList : Nat)) ∧ Below w.heap.size w w') := by
  obtain ⟨N, hN⟩ : ∃ N, N = cpre a.data.toList.reverse b.data.toList.reverse := ⟨_, rfl⟩
  have hle := cpre_le a.data.toList.reverse b.data.toList.reverse
  rw [← hN, List.length_reverse, List.length_reverse, ← size_eq, ← size_eq] at hle
  have hB : finN a.data.toList b.data.toList = maxK (qOk a.data.toList) N := by rw [hN]; rfl
  have hR : ∀ k w', k ≤ a.size → Calls Tryd.prog 13 #[.string (a.extract (a.size - k) a.size)] w' (BoolPost (qOk a.data.toList k) w') := fun k w' hk => by
    have := refRight_any (a.extract (a.size - k) a.size) w' (by rw [ByteArray.size_extract]; omega)
    rw [ext_take] at this
    unfold qOk
    rw [← size_eq]
    exact this
  have hQ : ∀ k, k ≤ a.size → k ≤ b.size → (((a.extract (a.size - k) a.size).toList == (b.extract (b.size - k) b.size).toList) = decide (k ≤ N)) := fun k h1 h2 => by
    have hc := cpre_take a.data.toList.reverse b.data.toList.reverse k (by rw [List.length_reverse, ← size_eq]; exact h1) (by rw [List.length_reverse, ← size_eq]; exact h2)
    rw [← hN] at hc
    have ea : (a.extract (a.size - k) a.size).data.toList = (a.data.toList.reverse.take k).reverse := by rw [← take_rev, ext_take, size_eq]
    have eb : (b.extract (b.size - k) b.size).data.toList = (b.data.toList.reverse.take k).reverse := by rw [← take_rev, ext_take, size_eq]
    by_cases hk : k ≤ N
    · rw [decide_eq_true hk]
      exact str_eq _ _ (data_inj (by rw [ea, eb, hc.2 hk]))
    · rw [decide_eq_false hk]
      exact str_ne _ _ fun h => hk (hc.1 (by
        have h2 : (a.extract (a.size - k) a.size).data.toList = (b.extract (b.size - k) b.size).data.toList := by rw [h]
        rw [ea, eb] at h2
        exact List.reverse_inj.1 h2))
  rw [hB]
  have HR := Lib.hid hR
  have HQ := Lib.hid hQ
  obtain ⟨hNa, hNb⟩ := hle
  clear hB hR hQ hN
  generalize qOk a.data.toList = p at HR ⊢
  go_enter Tryd.func45, Tryd.ntmps45
  go_wp2
  go_loopw [5, 6] (fun u v wr => ∃ k : Nat, u = .int .i64 (maxK p (k - 1) : Nat) ∧ v = .int .i64 k ∧ k ≤ N + 1 ∧ Below w.heap.size w wr) (fun _ v _ => N + 2 - (RowKit.intOf v).toNat)
  case atStart => exact ⟨0, rfl, rfl, by omega, Below.refl _ _⟩
  case round =>
    obtain ⟨k, rfl, rfl, hk, hbr⟩ := hrel
    by_cases h1 : k ≤ N
    · have hka : (k : Int) ≤ (a.size : Int) := by omega
      have hkb : (k : Int) ≤ (b.size : Int) := by omega
      have w1 : IntKind.i64.wrap ((a.size : Int) - (k : Int)) = ((a.size - k : Nat) : Int) := by (rw [IntKind.wrap_i64]; omega)
      have w2 : IntKind.i64.wrap ((b.size : Int) - (k : Int)) = ((b.size - k : Nat) : Int) := by (rw [IntKind.wrap_i64]; omega)
      have hq := HQ.out k (by omega) (by omega)
      rw [decide_eq_true h1] at hq
      have cR : ∀ w', _ := fun w' => HR.out k w' (by omega)
      cases hp : p k with
      | true =>
        rw [hp] at cR
        have HM := Lib.hid (maxK_yes p hp)
        have CR := Lib.hid cR
        clear hp cR
        go_upto_region 3 with (fail)
        go_quiet (fail)
        go_wp2_with (go_at_call 13; refine (CR.out _).mono ?_; rintro e w1 ⟨rfl, hb1⟩)
        go_roundw
        case rel => exact ⟨k + 1, by rw [Nat.add_sub_cancel, HM.out], by go_num, by omega, bth (bdN hbr _) hb1⟩
        case measure => simp [RowKit.intOf]; omega
      | false =>
        rw [hp] at cR
        have HM := Lib.hid (maxK_no p hp)
        have CR := Lib.hid cR
        clear hp cR
        go_upto_region 3 with (fail)
        go_quiet (fail)
        go_wp2_with (go_at_call 13; refine (CR.out _).mono ?_; rintro e w1 ⟨rfl, hb1⟩)
        go_roundw
        case rel => exact ⟨k + 1, by rw [Nat.add_sub_cancel, HM.out], by go_num, by omega, bth (bdN hbr _) hb1⟩
        case measure => simp [RowKit.intOf]; omega
    · have hkn : k - 1 = N := by omega
      by_cases h2 : k ≤ a.size
      · have h2z : (k : Int) ≤ (a.size : Int) := by omega
        by_cases h3 : k ≤ b.size
        · have h3z : (k : Int) ≤ (b.size : Int) := by omega
          have w1 : IntKind.i64.wrap ((a.size : Int) - (k : Int)) = ((a.size - k : Nat) : Int) := by (rw [IntKind.wrap_i64]; omega)
          have w2 : IntKind.i64.wrap ((b.size : Int) - (k : Int)) = ((b.size - k : Nat) : Int) := by (rw [IntKind.wrap_i64]; omega)
          have hq := HQ.out k h2 h3
          rw [decide_eq_false h1] at hq
          have HK := Lib.hid hkn
          clear hkn
          go_upto_region 3 with (fail)
          go_quiet (fail)
          go_wp2
          go_ret
          exact ⟨ret_int' (by rw [HK.out]), bdN hbr _⟩
        · have h3z : decide (k ≤ b.size) = false := decide_eq_false h3
          have HK := Lib.hid hkn
          clear hkn
          go_upto_region 3 with (fail)
          go_quiet (fail)
          go_wp2
          go_ret
          exact ⟨ret_int' (by rw [HK.out]), bdN hbr _⟩
      · have h2z : decide (k ≤ a.size) = false := decide_eq_false h2
        have HK := Lib.hid hkn
        clear hkn
        go_upto_region 3 with (fail)
        go_quiet (fail)
        go_wp2
        go_ret
        exact ⟨ret_int' (by rw [HK.out]), bdN hbr _⟩

-- behind begins, finishes
end Go.Proofs.YtadkjeefiacdbaaDoor
