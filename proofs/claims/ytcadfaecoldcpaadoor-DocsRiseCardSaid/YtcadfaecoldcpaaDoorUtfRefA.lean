/-
  THE WALK of the reference's scalar: it returns what the decoder reads, (0, 0) of a wrong one; the world stays. Conditions: the text is not empty, and no longer than may be.
-/
import Derived.Test.YtcadfaecoldcpaaDoorRows
import Derived.Test.YtcadfaecoldcpaaDoorPl
import Derived.WalkKit
import Derived.WalkSpells
import Derived.WalkLawsBesides
import Derived.LoopTactic
import Derived.Lib.Hide
set_option linter.unusedVariables false
namespace Go.Proofs.YtcadfaecoldcpaaDoor
open Go.RowKit Go.Lib
theorem ret_nn {a b : Int} {p : Nat × Nat} (h : a = p.1 ∧ b = p.2) : Ending.returned (.tuple #[.int .i64 a, .int .i64 b]) = .returned (.tuple #[.int .i64 (p.1 : Nat), .int .i64 (p.2 : Nat)]) := by rw [h.1, h.2]
theorem cont_of {x : Nat} (h : ¬ (x < 128 ∨ 192 ≤ x)) : x / 64 = 2 := by omega
theorem accR_le (l : List UInt8) (c k : Nat) (hc : c ≤ 31) (h1 : 1 ≤ k) (h4 : k ≤ 4) (h : ∀ j, 0 < j → j < k → by_ l j / 64 = 2) : accR l c k ≤ 100000000 := by
  have e1 : accR l c 1 = c := rfl
  have e2 : accR l c 2 = accR l c 1 * 64 + (by_ l 1 - 128) := rfl
  have e3 : accR l c 3 = accR l c 2 * 64 + (by_ l 2 - 128) := rfl
  have e4 : accR l c 4 = accR l c 3 * 64 + (by_ l 3 - 128) := rfl
  have b1 := by_lt l 1
  have b2 := by_lt l 2
  have b3 := by_lt l 3
  rcases (show k = 1 ∨ k = 2 ∨ k = 3 ∨ k = 4 by omega) with rfl | rfl | rfl | rfl <;> omega

theorem accR_succ (l : List UInt8) (c k : Nat) (h : 1 ≤ k) : accR l c (k + 1) = accR l c k * 64 + (by_ l k - 128) := by
  obtain ⟨m, rfl⟩ : ∃ m, k = m + 1 := ⟨k - 1, by omega⟩
  rfl
set_option maxRecDepth 100000 in
set_option maxHeartbeats 400000 in
theorem scalar_ascii (s : ByteArray) (w : World) (h0 : 0 < s.size) (hs : s.size ≤ 9223372036854775807) (hc : (s[0].toNat : Int) < 128) :
    Calls Tryd.prog 50 #[.string s] w fun e w' => e = .returned (.tuple #[.int .i64 ((refScal s.data.toList).1 : Nat), .int .i64 ((refScal s.data.toList).2 : Nat)]) ∧ w = w' := by
  have HR : Hid (refScal s.data.toList = (s[0].toNat, 1)) := by
    show _ = _
    rw [refScal_N, by_get s 0 h0, refN_ascii _ _ _ _ _ (by omega)]
  go_enter Tryd.func50, Tryd.ntmps50
  go_wp2
  go_ret2
  rw [HR.out]
  exact ⟨rfl, rfl⟩
set_option maxRecDepth 100000 in
set_option maxHeartbeats 400000 in
theorem scalar_bad (s : ByteArray) (w : World) (h0 : 0 < s.size) (hs : s.size ≤ 9223372036854775807) (hc1 : 128 ≤ (s[0].toNat : Int)) (hc : (s[0].toNat : Int) < 192 ∨ 248 ≤ (s[0].toNat : Int)) :
    Calls Tryd.prog 50 #[.string s] w fun e w' => e = .returned (.tuple #[.int .i64 ((refScal s.data.toList).1 : Nat), .int .i64 ((refScal s.data.toList).2 : Nat)]) ∧ w = w' := by
  have HR : Hid (refScal s.data.toList = (0, 0)) := by
    show _ = _
    have := by_lt s.data.toList 0
    rw [refScal_N]
    rw [by_get s 0 h0] at this ⊢
    rw [refN_bad _ _ _ _ _ (by omega) this]
  have hlt : s[0].toNat < 256 := UInt8.toNat_lt _
  have hltz : (s[0].toNat : Int) < 256 := by omega
  clear hlt
  rcases hc with hc | hc
  all_goals
    go_enter Tryd.func50, Tryd.ntmps50
    go_wp2
    go_ret2
    rw [HR.out]
    exact ⟨rfl, rfl⟩

set_option maxRecDepth 100000 in
set_option maxHeartbeats 1000000 in
theorem scalar_2 (s : ByteArray) (w : World) (h0 : 0 < s.size) (hs : s.size ≤ 9223372036854775807) (hc : 192 ≤ (s[0].toNat : Int)) (hc2 : (s[0].toNat : Int) < 224) :
    Calls Tryd.prog 50 #[.string s] w fun e w' => e = .returned (.tuple #[.int .i64 ((refScal s.data.toList).1 : Nat), .int .i64 ((refScal s.data.toList).2 : Nat)]) ∧ w = w' := by
  have hb0 := by_get s 0 h0
  have key := refN_c2 s.size (by_ s.data.toList 0) (by_ s.data.toList 1) (by_ s.data.toList 2) (by_ s.data.toList 3) (by omega) (by_lt _ _) 
  rw [size_eq, ← refScal_N, ← size_eq] at key
  have HK := Lib.hid key
  have HB := Lib.hid hb0
  clear key hb0
  by_cases hn : s.size < 2
  · have HR : Hid (refScal s.data.toList = (0, 0)) := by
      show _ = _
      rw [HK.out, if_pos (.inl hn)]
    have hnz : (s.size : Int) < 2 := by omega
    go_enter Tryd.func50, Tryd.ntmps50
    go_wp2
    go_ret2
    rw [HR.out]
    exact ⟨rfl, rfl⟩
  · have hnz : (2 : Int) ≤ (s.size : Int) := by omega
    have hnn : 2 ≤ s.size := by omega
    clear hn
    go_enter Tryd.func50, Tryd.ntmps50
    go_wp2
    go_loop [4, 7] (fun c i => ∃ k : Nat, 1 ≤ k ∧ k ≤ 2 ∧ i = .int .i64 k ∧ c = .int .i64 (accR s.data.toList (s[0].toNat - 192) k : Nat) ∧ ∀ j, 0 < j → j < k → by_ s.data.toList j / 64 = 2) (fun _ i => 2 - (intOf i).toNat)
    case atStart => exact ⟨1, by omega, by omega, rfl, congrArg (Value.int .i64) (show (s[0].toNat : Int) - 192 = ((s[0].toNat - 192 : Nat) : Int) by omega), fun j a b => by omega⟩
    case round =>
      obtain ⟨k, hk1, hkN, rfl, rfl, hcont⟩ := hrel
      have hbig : (accR s.data.toList (s[0].toNat - 192) k : Int) ≤ 100000000 := by
        have := accR_le s.data.toList (s[0].toNat - 192) k (by omega) hk1 (by omega) hcont
        omega
      have HC := Lib.hid hcont
      clear hcont
      by_cases hk : k < 2
      · have hks : k < s.size := by omega
        have hbk := by_get s k hks
        have hlt : s[k].toNat < 256 := UInt8.toNat_lt _
        have hltz : (s[k].toNat : Int) < 256 := by omega
        have HBK := Lib.hid hbk
        clear hbk
        by_cases hx : s[k].toNat < 128 ∨ 192 ≤ s[k].toNat
        · have HR : Hid (refScal s.data.toList = (0, 0)) := by
            show _ = _
            rw [HK.out, if_pos]
            have : by_ s.data.toList k / 64 ≠ 2 := by rw [HBK.out]; omega
            rcases (show k = 1 by omega) with rfl
            all_goals (simp only [this, ne_eq, not_false_eq_true, true_or, or_true])
          rcases hx with hx | hx
          · have hxz : (s[k].toNat : Int) < 128 := by omega
            go_wp2
            go_ret2
            rw [HR.out]
            exact ⟨rfl, rfl⟩
          · have hxz : (192 : Int) ≤ (s[k].toNat : Int) := by omega
            clear hx
            go_wp2
            go_ret2
            rw [HR.out]
            exact ⟨rfl, rfl⟩
        · have hxz : (s[k].toNat : Int) < 192 := by omega
          have hxz2 : (128 : Int) ≤ (s[k].toNat : Int) := by omega
          clear hx
          go_wp2
          go_round
          case rel =>
            refine ⟨k + 1, by omega, by omega, by go_num, ?_, ?_⟩
            · refine congrArg (Value.int .i64) ?_
              rw [accR_succ _ _ _ hk1, HBK.out]
              omega
            · intro j hj hjk
              by_cases hjj : j < k
              · exact HC.out j hj hjj
              · obtain rfl : j = k := by omega
                rw [HBK.out]
                omega
          case measure => simp [intOf]; omega
      · obtain rfl : k = 2 := by omega
        have e1 : accR s.data.toList (s[0].toNat - 192) 2 = (by_ s.data.toList 0 - 192) * 64 + (by_ s.data.toList 1 - 128) := by
          rw [← HB.out]
          rfl
        have HE := Lib.hid e1
        clear e1
        obtain ⟨V, hV⟩ : ∃ V, V = accR s.data.toList (s[0].toNat - 192) 2 := ⟨_, rfl⟩
        rw [← hV] at hbig ⊢
        have HV := Lib.hid hV
        clear hV hk hkN hk1
        have HK2 : Hid (refScal s.data.toList = if badV 128 V then (0, 0) else (V, 2)) := by
          show _ = _
          rw [HK.out, HV.out, HE.out]
          have c : ∀ j, 0 < j → j < 2 → ¬ (by_ s.data.toList j / 64 ≠ 2) := fun j a b => not_not_intro (HC.out j a b)
          simp only [eq_false (c 1 (by omega) (by omega)), false_or, eq_false (show ¬ s.size < 2 by omega)]
        by_cases hbad : badV 128 V
        · have HR : Hid (refScal s.data.toList = (0, 0)) := by
            show _ = _
            rw [HK2.out, if_pos hbad]
          unfold badV at hbad
          by_cases b1 : (V : Int) < 128
          · go_wp2
            go_ret2
            rw [HR.out]
            exact ⟨rfl, rfl⟩
          · have b1' : (128 : Int) ≤ V := by omega
            by_cases b2 : (1114111 : Int) < V
            · clear hbad b1
              go_wp2
              go_ret2
              rw [HR.out]
              exact ⟨rfl, rfl⟩
            · have b2' : (V : Int) ≤ 1114111 := by omega
              have b3 : (55296 : Int) ≤ V := by omega
              have b4 : (V : Int) ≤ 57343 := by omega
              clear hbad b1 b2
              go_wp2
              go_ret2
              rw [HR.out]
              exact ⟨rfl, rfl⟩
        · have HR : Hid (refScal s.data.toList = (V, 2)) := by
            show _ = _
            rw [HK2.out, if_neg hbad]
          unfold badV at hbad
          have b1 : (128 : Int) ≤ V := by omega
          have b2 : (V : Int) ≤ 1114111 := by omega
          by_cases b3 : (55296 : Int) ≤ V
          · have b4 : (57343 : Int) < V := by omega
            clear hbad
            go_wp2
            go_ret2
            rw [HR.out]
            exact ⟨rfl, rfl⟩
          · have b4 : (V : Int) < 55296 := by omega
            have b5 : decide ((55296 : Int) ≤ V) = false := decide_eq_false b3
            clear hbad b3 b4
            go_wp2
            go_ret2
            rw [HR.out]
            exact ⟨rfl, rfl⟩

set_option maxRecDepth 100000 in
set_option maxHeartbeats 1000000 in
theorem scalar_3 (s : ByteArray) (w : World) (h0 : 0 < s.size) (hs : s.size ≤ 9223372036854775807) (hc : 224 ≤ (s[0].toNat : Int)) (hc2 : (s[0].toNat : Int) < 240) :
    Calls Tryd.prog 50 #[.string s] w fun e w' => e = .returned (.tuple #[.int .i64 ((refScal s.data.toList).1 : Nat), .int .i64 ((refScal s.data.toList).2 : Nat)]) ∧ w = w' := by
  have hb0 := by_get s 0 h0
  have key := refN_c3 s.size (by_ s.data.toList 0) (by_ s.data.toList 1) (by_ s.data.toList 2) (by_ s.data.toList 3) (by omega) (by_lt _ _) (by_lt _ _) 
  rw [size_eq, ← refScal_N, ← size_eq] at key
  have HK := Lib.hid key
  have HB := Lib.hid hb0
  clear key hb0
  by_cases hn : s.size < 3
  · have HR : Hid (refScal s.data.toList = (0, 0)) := by
      show _ = _
      rw [HK.out, if_pos (.inl hn)]
    have hnz : (s.size : Int) < 3 := by omega
    go_enter Tryd.func50, Tryd.ntmps50
    go_wp2
    go_ret2
    rw [HR.out]
    exact ⟨rfl, rfl⟩
  · have hnz : (3 : Int) ≤ (s.size : Int) := by omega
    have hnn : 3 ≤ s.size := by omega
    clear hn
    go_enter Tryd.func50, Tryd.ntmps50
    go_wp2
    go_loop [4, 7] (fun c i => ∃ k : Nat, 1 ≤ k ∧ k ≤ 3 ∧ i = .int .i64 k ∧ c = .int .i64 (accR s.data.toList (s[0].toNat - 224) k : Nat) ∧ ∀ j, 0 < j → j < k → by_ s.data.toList j / 64 = 2) (fun _ i => 3 - (intOf i).toNat)
    case atStart => exact ⟨1, by omega, by omega, rfl, congrArg (Value.int .i64) (show (s[0].toNat : Int) - 224 = ((s[0].toNat - 224 : Nat) : Int) by omega), fun j a b => by omega⟩
    case round =>
      obtain ⟨k, hk1, hkN, rfl, rfl, hcont⟩ := hrel
      have hbig : (accR s.data.toList (s[0].toNat - 224) k : Int) ≤ 100000000 := by
        have := accR_le s.data.toList (s[0].toNat - 224) k (by omega) hk1 (by omega) hcont
        omega
      have HC := Lib.hid hcont
      clear hcont
      by_cases hk : k < 3
      · have hks : k < s.size := by omega
        have hbk := by_get s k hks
        have hlt : s[k].toNat < 256 := UInt8.toNat_lt _
        have hltz : (s[k].toNat : Int) < 256 := by omega
        have HBK := Lib.hid hbk
        clear hbk
        by_cases hx : s[k].toNat < 128 ∨ 192 ≤ s[k].toNat
        · have HR : Hid (refScal s.data.toList = (0, 0)) := by
            show _ = _
            rw [HK.out, if_pos]
            have : by_ s.data.toList k / 64 ≠ 2 := by rw [HBK.out]; omega
            rcases (show k = 1 ∨ k = 2 by omega) with rfl | rfl
            all_goals (simp only [this, ne_eq, not_false_eq_true, true_or, or_true])
          rcases hx with hx | hx
          · have hxz : (s[k].toNat : Int) < 128 := by omega
            go_wp2
            go_ret2
            rw [HR.out]
            exact ⟨rfl, rfl⟩
          · have hxz : (192 : Int) ≤ (s[k].toNat : Int) := by omega
            clear hx
            go_wp2
            go_ret2
            rw [HR.out]
            exact ⟨rfl, rfl⟩
        · have hxz : (s[k].toNat : Int) < 192 := by omega
          have hxz2 : (128 : Int) ≤ (s[k].toNat : Int) := by omega
          clear hx
          go_wp2
          go_round
          case rel =>
            refine ⟨k + 1, by omega, by omega, by go_num, ?_, ?_⟩
            · refine congrArg (Value.int .i64) ?_
              rw [accR_succ _ _ _ hk1, HBK.out]
              omega
            · intro j hj hjk
              by_cases hjj : j < k
              · exact HC.out j hj hjj
              · obtain rfl : j = k := by omega
                rw [HBK.out]
                omega
          case measure => simp [intOf]; omega
      · obtain rfl : k = 3 := by omega
        have e1 : accR s.data.toList (s[0].toNat - 224) 3 = ((by_ s.data.toList 0 - 224) * 64 + (by_ s.data.toList 1 - 128)) * 64 + (by_ s.data.toList 2 - 128) := by
          rw [← HB.out]
          rfl
        have HE := Lib.hid e1
        clear e1
        obtain ⟨V, hV⟩ : ∃ V, V = accR s.data.toList (s[0].toNat - 224) 3 := ⟨_, rfl⟩
        rw [← hV] at hbig ⊢
        have HV := Lib.hid hV
        clear hV hk hkN hk1
        have HK2 : Hid (refScal s.data.toList = if badV 2048 V then (0, 0) else (V, 3)) := by
          show _ = _
          rw [HK.out, HV.out, HE.out]
          have c : ∀ j, 0 < j → j < 3 → ¬ (by_ s.data.toList j / 64 ≠ 2) := fun j a b => not_not_intro (HC.out j a b)
          simp only [eq_false (c 1 (by omega) (by omega)), eq_false (c 2 (by omega) (by omega)), false_or, eq_false (show ¬ s.size < 3 by omega)]
        by_cases hbad : badV 2048 V
        · have HR : Hid (refScal s.data.toList = (0, 0)) := by
            show _ = _
            rw [HK2.out, if_pos hbad]
          unfold badV at hbad
          by_cases b1 : (V : Int) < 2048
          · go_wp2
            go_ret2
            rw [HR.out]
            exact ⟨rfl, rfl⟩
          · have b1' : (2048 : Int) ≤ V := by omega
            by_cases b2 : (1114111 : Int) < V
            · clear hbad b1
              go_wp2
              go_ret2
              rw [HR.out]
              exact ⟨rfl, rfl⟩
            · have b2' : (V : Int) ≤ 1114111 := by omega
              have b3 : (55296 : Int) ≤ V := by omega
              have b4 : (V : Int) ≤ 57343 := by omega
              clear hbad b1 b2
              go_wp2
              go_ret2
              rw [HR.out]
              exact ⟨rfl, rfl⟩
        · have HR : Hid (refScal s.data.toList = (V, 3)) := by
            show _ = _
            rw [HK2.out, if_neg hbad]
          unfold badV at hbad
          have b1 : (2048 : Int) ≤ V := by omega
          have b2 : (V : Int) ≤ 1114111 := by omega
          by_cases b3 : (55296 : Int) ≤ V
          · have b4 : (57343 : Int) < V := by omega
            clear hbad
            go_wp2
            go_ret2
            rw [HR.out]
            exact ⟨rfl, rfl⟩
          · have b4 : (V : Int) < 55296 := by omega
            have b5 : decide ((55296 : Int) ≤ V) = false := decide_eq_false b3
            clear hbad b3 b4
            go_wp2
            go_ret2
            rw [HR.out]
            exact ⟨rfl, rfl⟩

set_option maxRecDepth 100000 in
set_option maxHeartbeats 1000000 in
theorem scalar_4 (s : ByteArray) (w : World) (h0 : 0 < s.size) (hs : s.size ≤ 9223372036854775807) (hc : 240 ≤ (s[0].toNat : Int)) (hc2 : (s[0].toNat : Int) < 248) :
    Calls Tryd.prog 50 #[.string s] w fun e w' => e = .returned (.tuple #[.int .i64 ((refScal s.data.toList).1 : Nat), .int .i64 ((refScal s.data.toList).2 : Nat)]) ∧ w = w' := by
  have hb0 := by_get s 0 h0
  have key := refN_c4 s.size (by_ s.data.toList 0) (by_ s.data.toList 1) (by_ s.data.toList 2) (by_ s.data.toList 3) (by omega) (by_lt _ _) (by_lt _ _) (by_lt _ _) 
  rw [size_eq, ← refScal_N, ← size_eq] at key
  have HK := Lib.hid key
  have HB := Lib.hid hb0
  clear key hb0
  by_cases hn : s.size < 4
  · have HR : Hid (refScal s.data.toList = (0, 0)) := by
      show _ = _
      rw [HK.out, if_pos (.inl hn)]
    have hnz : (s.size : Int) < 4 := by omega
    go_enter Tryd.func50, Tryd.ntmps50
    go_wp2
    go_ret2
    rw [HR.out]
    exact ⟨rfl, rfl⟩
  · have hnz : (4 : Int) ≤ (s.size : Int) := by omega
    have hnn : 4 ≤ s.size := by omega
    clear hn
    go_enter Tryd.func50, Tryd.ntmps50
    go_wp2
    go_loop [4, 7] (fun c i => ∃ k : Nat, 1 ≤ k ∧ k ≤ 4 ∧ i = .int .i64 k ∧ c = .int .i64 (accR s.data.toList (s[0].toNat - 240) k : Nat) ∧ ∀ j, 0 < j → j < k → by_ s.data.toList j / 64 = 2) (fun _ i => 4 - (intOf i).toNat)
    case atStart => exact ⟨1, by omega, by omega, rfl, congrArg (Value.int .i64) (show (s[0].toNat : Int) - 240 = ((s[0].toNat - 240 : Nat) : Int) by omega), fun j a b => by omega⟩
    case round =>
      obtain ⟨k, hk1, hkN, rfl, rfl, hcont⟩ := hrel
      have hbig : (accR s.data.toList (s[0].toNat - 240) k : Int) ≤ 100000000 := by
        have := accR_le s.data.toList (s[0].toNat - 240) k (by omega) hk1 (by omega) hcont
        omega
      have HC := Lib.hid hcont
      clear hcont
      by_cases hk : k < 4
      · have hks : k < s.size := by omega
        have hbk := by_get s k hks
        have hlt : s[k].toNat < 256 := UInt8.toNat_lt _
        have hltz : (s[k].toNat : Int) < 256 := by omega
        have HBK := Lib.hid hbk
        clear hbk
        by_cases hx : s[k].toNat < 128 ∨ 192 ≤ s[k].toNat
        · have HR : Hid (refScal s.data.toList = (0, 0)) := by
            show _ = _
            rw [HK.out, if_pos]
            have : by_ s.data.toList k / 64 ≠ 2 := by rw [HBK.out]; omega
            rcases (show k = 1 ∨ k = 2 ∨ k = 3 by omega) with rfl | rfl | rfl
            all_goals (simp only [this, ne_eq, not_false_eq_true, true_or, or_true])
          rcases hx with hx | hx
          · have hxz : (s[k].toNat : Int) < 128 := by omega
            go_wp2
            go_ret2
            rw [HR.out]
            exact ⟨rfl, rfl⟩
          · have hxz : (192 : Int) ≤ (s[k].toNat : Int) := by omega
            clear hx
            go_wp2
            go_ret2
            rw [HR.out]
            exact ⟨rfl, rfl⟩
        · have hxz : (s[k].toNat : Int) < 192 := by omega
          have hxz2 : (128 : Int) ≤ (s[k].toNat : Int) := by omega
          clear hx
          go_wp2
          go_round
          case rel =>
            refine ⟨k + 1, by omega, by omega, by go_num, ?_, ?_⟩
            · refine congrArg (Value.int .i64) ?_
              rw [accR_succ _ _ _ hk1, HBK.out]
              omega
            · intro j hj hjk
              by_cases hjj : j < k
              · exact HC.out j hj hjj
              · obtain rfl : j = k := by omega
                rw [HBK.out]
                omega
          case measure => simp [intOf]; omega
      · obtain rfl : k = 4 := by omega
        have e1 : accR s.data.toList (s[0].toNat - 240) 4 = (((by_ s.data.toList 0 - 240) * 64 + (by_ s.data.toList 1 - 128)) * 64 + (by_ s.data.toList 2 - 128)) * 64 + (by_ s.data.toList 3 - 128) := by
          rw [← HB.out]
          rfl
        have HE := Lib.hid e1
        clear e1
        obtain ⟨V, hV⟩ : ∃ V, V = accR s.data.toList (s[0].toNat - 240) 4 := ⟨_, rfl⟩
        rw [← hV] at hbig ⊢
        have HV := Lib.hid hV
        clear hV hk hkN hk1
        have HK2 : Hid (refScal s.data.toList = if badV 65536 V then (0, 0) else (V, 4)) := by
          show _ = _
          rw [HK.out, HV.out, HE.out]
          have c : ∀ j, 0 < j → j < 4 → ¬ (by_ s.data.toList j / 64 ≠ 2) := fun j a b => not_not_intro (HC.out j a b)
          simp only [eq_false (c 1 (by omega) (by omega)), eq_false (c 2 (by omega) (by omega)), eq_false (c 3 (by omega) (by omega)), false_or, eq_false (show ¬ s.size < 4 by omega)]
        by_cases hbad : badV 65536 V
        · have HR : Hid (refScal s.data.toList = (0, 0)) := by
            show _ = _
            rw [HK2.out, if_pos hbad]
          unfold badV at hbad
          by_cases b1 : (V : Int) < 65536
          · go_wp2
            go_ret2
            rw [HR.out]
            exact ⟨rfl, rfl⟩
          · have b1' : (65536 : Int) ≤ V := by omega
            by_cases b2 : (1114111 : Int) < V
            · clear hbad b1
              go_wp2
              go_ret2
              rw [HR.out]
              exact ⟨rfl, rfl⟩
            · have b2' : (V : Int) ≤ 1114111 := by omega
              have b3 : (55296 : Int) ≤ V := by omega
              have b4 : (V : Int) ≤ 57343 := by omega
              clear hbad b1 b2
              go_wp2
              go_ret2
              rw [HR.out]
              exact ⟨rfl, rfl⟩
        · have HR : Hid (refScal s.data.toList = (V, 4)) := by
            show _ = _
            rw [HK2.out, if_neg hbad]
          unfold badV at hbad
          have b1 : (65536 : Int) ≤ V := by omega
          have b2 : (V : Int) ≤ 1114111 := by omega
          by_cases b3 : (55296 : Int) ≤ V
          · have b4 : (57343 : Int) < V := by omega
            clear hbad
            go_wp2
            go_ret2
            rw [HR.out]
            exact ⟨rfl, rfl⟩
          · have b4 : (V : Int) < 55296 := by omega
            have b5 : decide ((55296 : Int) ≤ V) = false := decide_eq_false b3
            clear hbad b3 b4
            go_wp2
            go_ret2
            rw [HR.out]
            exact ⟨rfl, rfl⟩

set_option maxRecDepth 100000 in
/-- THE CONTRACT of boltholeref01.scalar. -/
theorem scalar_any (s : ByteArray) (w : World) (h0 : 0 < s.size) (hs : s.size ≤ 9223372036854775807) :
    Calls Tryd.prog 50 #[.string s] w fun e w' => e = .returned (.tuple #[.int .i64 ((refScal s.data.toList).1 : Nat), .int .i64 ((refScal s.data.toList).2 : Nat)]) ∧ w = w' := by
  have hlt : s[0].toNat < 256 := UInt8.toNat_lt _
  by_cases c1 : s[0].toNat < 128
  · exact scalar_ascii s w h0 hs (by omega)
  by_cases c2 : s[0].toNat < 192
  · exact scalar_bad s w h0 hs (by omega) (by omega)
  by_cases c3 : s[0].toNat < 224
  · exact scalar_2 s w h0 hs (by omega) (by omega)
  by_cases c4 : s[0].toNat < 240
  · exact scalar_3 s w h0 hs (by omega) (by omega)
  by_cases c5 : s[0].toNat < 248
  · exact scalar_4 s w h0 hs (by omega) (by omega)
  · exact scalar_bad s w h0 hs (by omega) (by omega)
end Go.Proofs.YtcadfaecoldcpaaDoor
