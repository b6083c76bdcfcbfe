/-
  THE WALK of the statement of layer 1: joined. Conditions: the library's two tables lie as its text lays them.
-/
import Derived.Test.YtodhmkgfeliclaaDoorUtfLaw2
set_option linter.unusedVariables false
set_option linter.unusedSimpArgs false
namespace Go.Proofs.YtodhmkgfeliclaaDoor
open Go.RowKit Go.Lib Go.Shelf
theorem cat_data (a b : ByteArray) : (a ++ b).data.toList = a.data.toList ++ b.data.toList := by
  obtain ⟨⟨x⟩⟩ := a
  obtain ⟨⟨y⟩⟩ := b
  simp [ByteArray.data_append]
theorem cat_size (a b : ByteArray) : (a ++ b).size = a.size + b.size := by rw [size_eq, cat_data, List.length_append, ← size_eq, ← size_eq]

set_option maxRecDepth 100000 in
set_option maxHeartbeats 1000000 in
theorem utfJoins_any (a b : ByteArray) (unit : Int) (w : World) (has : a.size ≤ 140737488355328) (hbs : b.size ≤ 140737488355328) (hT : Tabs w) :
    Calls Tryd.prog 6 #[.string a, .string b, .int .i64 unit] w (BoolPost true w) := by
  by_cases h1 : a.size ≤ 200
  · by_cases h2 : b.size ≤ 200
    · have h1z : decide ((200 : Int) < (a.size : Int)) = false := decide_eq_false (by omega)
      have h2z : decide ((200 : Int) < (b.size : Int)) = false := decide_eq_false (by omega)
      have c0 := right_any a w (by omega) hT
      have c1 : ∀ w1, Tabs w1 → _ := fun w1 h1 => right_any b w1 (by omega) h1
      by_cases hva : validD a.data.toList = true
      · rw [hva] at c0
        by_cases hvb : validD b.data.toList = true
        · rw [hvb] at c1
          have hvab : validD (a ++ b).data.toList = true := by rw [cat_data, validD_append _ _ hva]; exact hvb
          have hla : a.data.toList.length = a.size := (size_eq a).symm
          have hua := unitsL_le a.data.toList
          have hub := unitsL_le b.data.toList
          rw [hla] at hua
          rw [(size_eq b).symm] at hub
          obtain ⟨u, hu, hbits⟩ := and255 unit
          have hsz := cat_size a b
          have c2 : ∀ w1, Tabs w1 → _ := fun w1 h1 => utfUnits_any (some ⟨w1.heap.size, 0, none⟩) 1 [a] (w1.alloc (.cells #[.string a] 9)) (by simp) (by intro t ht; simp at ht; subst ht; omega) (rdS_new w1 [a]) (h1.below ((Below.refl _ _).alloc (Nat.le_refl _) _))
          have c3 : ∀ w1, Tabs w1 → _ := fun w1 h1 => utfUnits_any (some ⟨w1.heap.size, 0, none⟩) 1 [a ++ b] (w1.alloc (.cells #[.string (a ++ b)] 9)) (by simp) (by intro t ht; simp at ht; subst ht; omega) (rdS_new w1 [a ++ b]) (h1.below ((Below.refl _ _).alloc (Nat.le_refl _) _))
          have c4 : ∀ w1, Tabs w1 → _ := fun w1 h1 => utfUnits_any (some ⟨w1.heap.size, 0, none⟩) 2 [a, b] (w1.alloc (.cells #[.string a, .string b] 9)) (by simp) (by intro t ht; simp at ht; rcases ht with rfl | rfl <;> omega) (rdS_new w1 [a, b]) (h1.below ((Below.refl _ _).alloc (Nat.le_refl _) _))
          have c5 : ∀ w1, Tabs w1 → _ := fun w1 h1 => utfOffset_any b (u : Int) w1 (by omega) (by omega) h1
          have c6 : ∀ w1, Tabs w1 → _ := fun w1 h1 => utfOffset_any (a ++ b) (((unitsL a.data.toList : Nat) : Int) + (u : Int)) w1 (by omega) (by omega) h1
          rw [show unitsAll (bytesOf [a]) 0 = (unitsL a.data.toList, 0) by simp [unitsAll, hva]] at c2
          rw [show unitsAll (bytesOf [a ++ b]) 0 = (unitsL a.data.toList + unitsL b.data.toList, 0) by simp only [List.map_cons, List.map_nil, unitsAll, hvab, if_true, Nat.zero_add]; rw [cat_data, unitsL_append _ _ hva]] at c3
          rw [show unitsAll (bytesOf [a, b]) 0 = (unitsL a.data.toList + unitsL b.data.toList, 0) by simp [unitsAll, hva, hvb]] at c4
          have hj := off_joined a.data.toList b.data.toList hva (u : Int) (by omega)
          rw [← cat_data, hla] at hj
          have e6 : offRes (a ++ b).data.toList (((unitsL a.data.toList : Nat) : Int) + (u : Int)) = match offL b.data.toList (u : Int) with | some k => (a.size + k, 0) | none => (0, 12) := by
            unfold offRes
            rw [if_pos hvab, hj]
            cases offL b.data.toList (u : Int) <;> rfl
          have e5 : offRes b.data.toList (u : Int) = match offL b.data.toList (u : Int) with | some k => (k, 0) | none => (0, 12) := if_pos hvb
          rw [e6] at c6
          rw [e5] at c5
          have hszz : ((a ++ b).size : Int) ≤ 400 := by omega
          have C1 := Lib.hid c1
          have C2 := Lib.hid c2
          have C3 := Lib.hid c3
          have C4 := Lib.hid c4
          have HVB := Lib.hid hvb
          clear c1 c2 c3 c4 e5 e6 hj hsz hla hva hvb hvab
          cases ho : offL b.data.toList (u : Int) with
          | none =>
            rw [ho] at c5 c6
            have C5 := Lib.hid c5
            have C6 := Lib.hid c6
            clear c5 c6 ho
            generalize unitsL a.data.toList = U at C2 C3 C4 C6 hua
            generalize unitsL b.data.toList = V at C3 C4 hub
            go_enter Tryd.func6, Tryd.ntmps6
            go_wp2_with fail
            refine c0.mono ?_
            rintro e w1 ⟨rfl, hb1⟩
            have hT1 := hT.below hb1
            go_wp2_with fail
            refine (C1.out _ hT1).mono ?_
            rintro e w2 ⟨rfl, hb2⟩
            have hT2 := hT1.below hb2
            go_wp2_with fail
            have hba : Below w2.heap.size w2 (w2.alloc (.cells #[.string a] 9)) := (Below.refl _ _).alloc (Nat.le_refl _) _
            refine (C2.out _ hT2).mono ?_
            rintro e w3 ⟨rfl, hb3⟩
            have hT3 := (hT2.below hba).below hb3
            go_wp2_with fail
            have hbb : Below w3.heap.size w3 (w3.alloc (.cells #[.string (a ++ b)] 9)) := (Below.refl _ _).alloc (Nat.le_refl _) _
            refine (C3.out _ hT3).mono ?_
            rintro e w4 ⟨rfl, hb4⟩
            have hT4 := (hT3.below hbb).below hb4
            go_wp2_with fail
            have hbc : Below w4.heap.size w4 (w4.alloc (.cells #[.string a, .string b] 9)) := (Below.refl _ _).alloc (Nat.le_refl _) _
            refine (C4.out _ hT4).mono ?_
            rintro e w5 ⟨rfl, hb5⟩
            have hT5 := (hT4.below hbc).below hb5
            go_wp2_with fail
            refine (C5.out _ hT5).mono ?_
            rintro e w6 ⟨rfl, hb6⟩
            have hT6 := hT5.below hb6
            go_wp2_with fail
            refine (C6.out _ hT6).mono ?_
            rintro e w7 ⟨rfl, hb7⟩
            have hT7 := hT6.below hb7
            go_wp2_with fail
            refine (alive01_any _ hT7).mono ?_
            rintro e w8 ⟨rfl, hb8⟩
            go_wp2_with fail
            go_ret
            exact ⟨rfl, bth (bth (bth (bth (bth (bth (bth (bth (bth (bth hb1 hb2) hba) hb3) hbb) hb4) hbc) hb5) hb6) hb7) hb8⟩
          | some k =>
            rw [ho] at c5 c6
            have hkk : k ≤ b.size := by
              have := (off_back b.data.toList HVB.out u k ho).2.2.2.2.2
              rw [(size_eq b).symm] at this
              exact this
            have C5 := Lib.hid c5
            have C6 := Lib.hid c6
            clear c5 c6 ho
            generalize unitsL a.data.toList = U at C2 C3 C4 C6 hua
            generalize unitsL b.data.toList = V at C3 C4 hub
            go_enter Tryd.func6, Tryd.ntmps6
            go_wp2_with fail
            refine c0.mono ?_
            rintro e w1 ⟨rfl, hb1⟩
            have hT1 := hT.below hb1
            go_wp2_with fail
            refine (C1.out _ hT1).mono ?_
            rintro e w2 ⟨rfl, hb2⟩
            have hT2 := hT1.below hb2
            go_wp2_with fail
            have hba : Below w2.heap.size w2 (w2.alloc (.cells #[.string a] 9)) := (Below.refl _ _).alloc (Nat.le_refl _) _
            refine (C2.out _ hT2).mono ?_
            rintro e w3 ⟨rfl, hb3⟩
            have hT3 := (hT2.below hba).below hb3
            go_wp2_with fail
            have hbb : Below w3.heap.size w3 (w3.alloc (.cells #[.string (a ++ b)] 9)) := (Below.refl _ _).alloc (Nat.le_refl _) _
            refine (C3.out _ hT3).mono ?_
            rintro e w4 ⟨rfl, hb4⟩
            have hT4 := (hT3.below hbb).below hb4
            go_wp2_with fail
            have hbc : Below w4.heap.size w4 (w4.alloc (.cells #[.string a, .string b] 9)) := (Below.refl _ _).alloc (Nat.le_refl _) _
            refine (C4.out _ hT4).mono ?_
            rintro e w5 ⟨rfl, hb5⟩
            have hT5 := (hT4.below hbc).below hb5
            go_wp2_with fail
            refine (C5.out _ hT5).mono ?_
            rintro e w6 ⟨rfl, hb6⟩
            have hT6 := hT5.below hb6
            go_wp2_with fail
            refine (C6.out _ hT6).mono ?_
            rintro e w7 ⟨rfl, hb7⟩
            have hT7 := hT6.below hb7
            go_wp2_with fail
            refine (alive01_any _ hT7).mono ?_
            rintro e w8 ⟨rfl, hb8⟩
            go_wp2_with fail
            go_ret
            exact ⟨(by first | rfl | exact ret_bool' (beq_iff_eq.2 (by omega))), bth (bth (bth (bth (bth (bth (bth (bth (bth (bth hb1 hb2) hba) hb3) hbb) hb4) hbc) hb5) hb6) hb7) hb8⟩
        · rw [show validD b.data.toList = false by simpa using hvb] at c1
          have C1 := Lib.hid c1
          clear hva hvb c1
          go_enter Tryd.func6, Tryd.ntmps6
          go_wp2_with fail
          refine c0.mono ?_
          rintro e w1 ⟨rfl, hb1⟩
          have hT1 := hT.below hb1
          go_wp2_with fail
          refine (C1.out _ hT1).mono ?_
          rintro e w2 ⟨rfl, hb2⟩
          have hT2 := hT1.below hb2
          go_wp2_with fail
          refine (alive01_any _ hT2).mono ?_
          rintro e w8 ⟨rfl, hb8⟩
          go_wp2_with fail
          go_ret
          exact ⟨rfl, bth (bth hb1 hb2) hb8⟩
      · rw [show validD a.data.toList = false by simpa using hva] at c0
        have C1 := Lib.hid c1
        clear hva c1
        go_enter Tryd.func6, Tryd.ntmps6
        go_wp2_with fail
        refine c0.mono ?_
        rintro e w1 ⟨rfl, hb1⟩
        have hT1 := hT.below hb1
        go_wp2_with fail
        refine (alive01_any _ hT1).mono ?_
        rintro e w8 ⟨rfl, hb8⟩
        go_wp2_with fail
        go_ret
        exact ⟨rfl, bth hb1 hb8⟩
    · have h1z : decide ((200 : Int) < (a.size : Int)) = false := decide_eq_false (by omega)
      have h2z : (200 : Int) < (b.size : Int) := by omega
      clear h2
      go_enter Tryd.func6, Tryd.ntmps6
      go_wp2_with fail
      refine (alive01_any _ hT).mono ?_
      rintro e w8 ⟨rfl, hb8⟩
      go_wp2_with fail
      go_ret
      exact ⟨rfl, hb8⟩
  · have h1z : (200 : Int) < (a.size : Int) := by omega
    clear h1
    go_enter Tryd.func6, Tryd.ntmps6
    go_wp2_with fail
    refine (alive01_any _ hT).mono ?_
    rintro e w8 ⟨rfl, hb8⟩
    go_wp2_with fail
    go_ret
    exact ⟨rfl, hb8⟩
end Go.Proofs.YtodhmkgfeliclaaDoor
