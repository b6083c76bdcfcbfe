/-
  THE WALKS of the statements of layer 1: there and back, joined. Conditions: the library's two tables lie as its text lays them.
-/
import Derived.Test.YtodhmkgfeliclaaDoorUtfLaw
import Derived.Deep.RegionHeld3
import Derived.Deep.DrawnRows
set_option linter.unusedVariables false
set_option linter.unusedSimpArgs false
namespace Go.Proofs.YtodhmkgfeliclaaDoor
open Go.RowKit Go.Lib Go.Shelf
attribute [local go_sem ↓] Go.wp_at_zero Go.wp_at_succ
theorem bdr {w w' : World} (h : Below w.drew.heap.size w.drew w') : Below w.heap.size w w' := ⟨h.os, h.tape, h.output, h.size, h.block⟩
theorem wrap64_bd (x : Int) : -9223372036854775808 ≤ wrap64 x ∧ wrap64 x ≤ 9223372036854775807 := by unfold wrap64; omega
theorem str_eq (s t : ByteArray) (h : s = t) : (s.toList == t.toList) = true := by subst h; simp

set_option maxRecDepth 100000 in
set_option maxHeartbeats 1000000 in
theorem utfBack_any (s : ByteArray) (unit : Int) (w : World) (hs : s.size ≤ 140737488355328) (hu0 : -9223372036854775808 ≤ unit) (hu : unit ≤ 9223372036854775807) (hT : Tabs w) :
    Calls Tryd.prog 5 #[.string s, .int .i64 unit] w (BoolPost true w) := by
  by_cases h : s.size ≤ 400
  · have hz : decide ((400 : Int) < (s.size : Int)) = false := decide_eq_false (by omega)
    have c0 := right_any s w (by omega) hT
    by_cases hv : validD s.data.toList = true
    · rw [hv] at c0
      have hl : s.data.toList.length = s.size := (size_eq s).symm
      have c1 : ∀ w1, Tabs w1 → Below w.heap.size w w1 → _ := fun w1 h1 hb => utfUnits_any (some ⟨w1.heap.size, 0, none⟩) 1 [s] (w1.alloc (.cells #[.string s] 9)) (by simp) (by intro t ht; simp at ht; subst ht; exact hs) (rdS_new w1 [s]) (h1.below ((Below.refl _ _).alloc (Nat.le_refl _) _))
      have e1 : unitsAll (bytesOf [s]) 0 = (unitsL s.data.toList, 0) := by simp [unitsAll, hv]
      rw [e1] at c1
      have c2 : ∀ w1, Tabs w1 → _ := fun w1 h1 => utfOffset_any s unit w1 hs hu h1
      have hul := unitsL_le s.data.toList
      rw [hl] at hul
      cases ho : offL s.data.toList unit with
      | none =>
        have e2 : offRes s.data.toList unit = (0, 12) := by unfold offRes; rw [if_pos hv, ho]
        rw [e2] at c2
        by_cases hin : 0 ≤ unit ∧ unit ≤ unitsL s.data.toList
        · obtain ⟨k, hk⟩ := off_before s.data.toList unit ho hin.1 hin.2
          have c3 : ∀ w1, Tabs w1 → _ := fun w1 h1 => utfOffset_any s (unit - 1) w1 hs (by omega) h1
          have e3 : offRes s.data.toList (unit - 1) = (k, 0) := by unfold offRes; rw [if_pos hv, hk]
          rw [e3] at c3
          obtain ⟨h1, h2⟩ := hin
          have h1z : decide (unit < 0) = false := decide_eq_false (by omega)
          have h2z : decide (((unitsL s.data.toList : Nat) : Int) < unit) = false := decide_eq_false (by omega)
          have C1 := Lib.hid c1
          have C2 := Lib.hid c2
          have C3 := Lib.hid c3
          clear c1 c2 c3 e1 e2 e3 ho hk hl hv
          generalize unitsL s.data.toList = U at C1 h2 h2z hul
          go_enter Tryd.func5, Tryd.ntmps5
          go_wp2_with fail
          refine c0.mono ?_
          rintro e w1 ⟨rfl, hb1⟩
          have hT1 := hT.below hb1
          go_wp2_with fail
          have hba : Below w1.heap.size w1 (w1.alloc (.cells #[.string s] 9)) := (Below.refl _ _).alloc (Nat.le_refl _) _
          refine (C1.out _ hT1 hb1).mono ?_
          rintro e w2 ⟨rfl, hb2⟩
          have hT2 := (hT1.below hba).below hb2
          go_wp2_with fail
          refine (C2.out _ hT2).mono ?_
          rintro e w3 ⟨rfl, hb3⟩
          have hT3 := hT2.below hb3
          go_wp2_with fail
          refine (C3.out _ hT3).mono ?_
          rintro e w4 ⟨rfl, hb4⟩
          have hT4 := hT3.below hb4
          go_wp2_with fail
          refine (alive01_any _ hT4).mono ?_
          rintro e w5 ⟨rfl, hb5⟩
          go_wp2_with fail
          go_ret
          exact ⟨rfl, bth (bth (bth (bth (bth hb1 hba) hb2) hb3) hb4) hb5⟩
        · have C1 := Lib.hid c1
          have C2 := Lib.hid c2
          have hout : unit < 0 ∨ (0 ≤ unit ∧ ((unitsL s.data.toList : Nat) : Int) < unit) := by omega
          clear c1 c2 e1 e2 ho hl hv hin
          generalize unitsL s.data.toList = U at C1 hout hul
          rcases hout with hout | ⟨hout0, hout⟩
          all_goals
            first | have h1z : decide (unit < 0) = false := decide_eq_false (by omega) | skip
            go_enter Tryd.func5, Tryd.ntmps5
            go_wp2_with fail
            refine c0.mono ?_
            rintro e w1 ⟨rfl, hb1⟩
            have hT1 := hT.below hb1
            go_wp2_with fail
            have hba : Below w1.heap.size w1 (w1.alloc (.cells #[.string s] 9)) := (Below.refl _ _).alloc (Nat.le_refl _) _
            refine (C1.out _ hT1 hb1).mono ?_
            rintro e w2 ⟨rfl, hb2⟩
            have hT2 := (hT1.below hba).below hb2
            go_wp2_with fail
            refine (C2.out _ hT2).mono ?_
            rintro e w3 ⟨rfl, hb3⟩
            have hT3 := hT2.below hb3
            go_wp2_with fail
            have hy : ∀ y : Int, y ≤ 9223372036854775807 → Calls Tryd.prog 8 #[.string s, .int .i64 y] w3 (Post2 (offRes s.data.toList y) w3) := fun y h => utfOffset_any s y w3 hs h hT3
            first | (with_reducible refine (hy (wrap64 (unit - 1)) (wrap64_bd _).2).mono ?_) | (with_reducible refine (hy (unit - 1) (by omega)).mono ?_)
            rintro e w4 ⟨rfl, hb4⟩
            have hT4 := hT3.below hb4
            go_wp2_with fail
            refine (alive01_any _ hT4).mono ?_
            rintro e w5 ⟨rfl, hb5⟩
            go_wp2_with fail
            go_ret
            exact ⟨rfl, bth (bth (bth (bth (bth hb1 hba) hb2) hb3) hb4) hb5⟩
      | some k =>
        have e2 : offRes s.data.toList unit = (k, 0) := by unfold offRes; rw [if_pos hv, ho]
        rw [e2] at c2
        obtain ⟨b1, b2, b3, b4, b5, b6⟩ := off_back s.data.toList hv unit k ho
        obtain ⟨V, rfl⟩ : ∃ V : Nat, unit = (V : Int) := ⟨unit.toNat, by omega⟩
        have e3 : unitRes s.data.toList k = (V, 0) := by unfold unitRes; rw [if_pos hv, b3, Int.toNat_natCast]
        have e4 := cut_start s.data.toList hv k b4
        have c3 : ∀ w1, Tabs w1 → _ := fun w1 h1 => utfUnit_any s k w1 hs h1
        have c4 : ∀ w1, Tabs w1 → _ := fun w1 h1 => utfCut_any s k w1 hs h1
        rw [e3] at c3
        rw [e4] at c4
        rw [hl] at b5 b6
        have hkz : (k : Int) ≤ (s.size : Int) := by omega
        have C1 := Lib.hid c1
        have C2 := Lib.hid c2
        have C3 := Lib.hid c3
        have C4 := Lib.hid c4
        clear c1 c2 c3 c4 e1 e2 e3 e4 ho hl hv b1 b3 b4
        generalize unitsL s.data.toList = U at C1 b2 b5 hul
        have b2n : V ≤ U := by omega
        by_cases hVU : V = U
        all_goals
          first
            | have f1 : ((V : Int) == (U : Int)) = true := beq_iff_eq.2 (by omega)
            | have f1 : ((V : Int) == (U : Int)) = false := beq_eq_false_iff_ne.2 (by omega)
          first
            | have f2 : ((k : Int) == (s.size : Int)) = true := beq_iff_eq.2 (by omega)
            | have f2 : ((k : Int) == (s.size : Int)) = false := beq_eq_false_iff_ne.2 (by omega)
          clear hVU b5
          go_enter Tryd.func5, Tryd.ntmps5
          go_wp2_with fail
          refine c0.mono ?_
          rintro e w1 ⟨rfl, hb1⟩
          have hT1 := hT.below hb1
          go_wp2_with fail
          have hba : Below w1.heap.size w1 (w1.alloc (.cells #[.string s] 9)) := (Below.refl _ _).alloc (Nat.le_refl _) _
          refine (C1.out _ hT1 hb1).mono ?_
          rintro e w2 ⟨rfl, hb2⟩
          have hT2 := (hT1.below hba).below hb2
          go_wp2_with fail
          refine (C2.out _ hT2).mono ?_
          rintro e w3 ⟨rfl, hb3⟩
          have hT3 := hT2.below hb3
          go_wp2_with fail
          refine (C3.out _ hT3).mono ?_
          rintro e w4 ⟨rfl, hb4⟩
          have hT4 := hT3.below hb4
          go_wp2_with fail
          go_region_held3 (fun _ => True) (trivial)
            (first
              | (go_at_call 7; refine (alive01_any _ ?_).mono ?_; exact hT4; rintro e w5 ⟨rfl, hb5⟩; replace hb5 := bdr hb5; have hT5 := Tabs.below hT4 hb5)
              | (go_at_call 14; refine (C4.out _ hT5).mono ?_; rintro e w6 ⟨rfl, hb6⟩))
          all_goals go_wp2_with fail
          all_goals go_ret
          all_goals exact ⟨rfl, bth (bth (bth (bth (bth (bth hb1 hba) hb2) hb3) hb4) hb5) hb6⟩
    · rw [show validD s.data.toList = false by simpa using hv] at c0
      clear hv
      go_enter Tryd.func5, Tryd.ntmps5
      go_wp2_with fail
      refine c0.mono ?_
      rintro e w1 ⟨rfl, hb1⟩
      have hT1 := hT.below hb1
      go_wp2_with fail
      refine (alive01_any _ hT1).mono ?_
      rintro e w5 ⟨rfl, hb5⟩
      go_wp2_with fail
      go_ret
      exact ⟨rfl, bth hb1 hb5⟩
  · have hz : (400 : Int) < (s.size : Int) := by omega
    clear h
    go_enter Tryd.func5, Tryd.ntmps5
    go_wp2_with (go_at_call 7; refine (alive01_any _ hT).mono ?_; rintro e w5 ⟨rfl, hb5⟩)
    go_ret
    exact ⟨rfl, hb5⟩

end Go.Proofs.YtodhmkgfeliclaaDoor
