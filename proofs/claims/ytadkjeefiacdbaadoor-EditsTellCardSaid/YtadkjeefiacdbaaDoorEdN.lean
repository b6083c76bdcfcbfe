/-
  THE WALK of the statement EditsBack. Conditions: what Env says of the world; the arguments. bounds.
-/
import Derived.Test.YtadkjeefiacdbaaDoorEdM
set_option linter.unusedVariables false
set_option linter.unusedSimpArgs false
namespace Go.Proofs.YtadkjeefiacdbaaDoor
open Go.RowKit Go.Lib Go.Shelf

theorem betV_l (a b : ByteArray) : (betV a b).l = betE a.data.toList b.data.toList := by
  have e : (b.extract (begN a.data.toList b.data.toList) (b.size - finR a.data.toList b.data.toList)).data.toList = midL a.data.toList b.data.toList := by
    unfold midL
    rw [← size_eq]
    simp [ByteArray.data_extract, List.drop_take]
  unfold betV EdV.l betE
  rw [e]
theorem place_unit_le (l : List UInt8) (hv : validD l = true) (k : Nat) (h : startAt l k) : (placeP l k).2.1 ≤ l.length := by
  rw [placeP_take l hv k h]
  have h1 := unitsL_le (lineN (l.take k) (nLines (l.take k) - 1))
  have h2 := (lineN_at (l.take k) (n := nLines (l.take k) - 1) (by have := nLines_pos (l.take k); omega)).2
  have h3 : (l.take k).length ≤ l.length := by rw [List.length_take]; omega
  simp only
  omega
theorem betV_ok (a b : ByteArray) (ha : a.size ≤ 300) (hb : b.size ≤ 300) (hva : validD a.data.toList = true) : (betV a b).Ok := by
  have h1 := place_unit_le _ hva _ (beg_start a.data.toList b.data.toList hva)
  have h2 := place_unit_le _ hva _ (fin_start a.data.toList b.data.toList hva)
  have hsz := size_eq a
  refine ⟨?_, ?_, ?_⟩
  · show ((_ : Nat) : Int) ≤ _
    omega
  · show ((_ : Nat) : Int) ≤ _
    omega
  · show (b.extract _ _).size ≤ _
    rw [ByteArray.size_extract]
    omega

set_option maxRecDepth 100000 in
set_option maxHeartbeats 1000000 in
theorem editsBack_any (a b : ByteArray) (w : World) (ha : a.size ≤ 140737488355328) (hb : b.size ≤ 140737488355328) (hE : Env w) :
    Calls Tryd.prog 9 #[.string a, .string b] w (BoolPost true w) := by
  have HL := Lib.hid fun w' he => alive06_any w' he
  have HE := Lib.hid hE
  by_cases h1 : a.size ≤ 300
  · by_cases h2 : b.size ≤ 300
    · have h1z : (a.size : Int) ≤ 300 := by omega
      have h2z : (b.size : Int) ≤ 300 := by omega
      by_cases hv : validD a.data.toList = true ∧ validD b.data.toList = true
      · obtain ⟨hva, hvb⟩ := hv
        have cB := fun w' he => edBetween_ok a b w' (by omega) (by omega) hva hvb he
        have cB2 := fun w' he => edBetween_ok b a w' (by omega) (by omega) hvb hva he
        have cA : ∀ w' B, RdE w' (some ⟨B, 0, none⟩) [betV a b] → Env w' → Calls Tryd.prog 24 #[.string a, .slice (some ⟨B, 0, none⟩) 1 1] w' (fun e w'' => e = .returned (.tuple #[.string b, .int .i64 0]) ∧ Below w'.heap.size w' w'') := fun w' B hr he => by
          refine (edApply_any a (some ⟨B, 0, none⟩) 1 [betV a b] w' (by omega) (show 1 ≤ 1048576 by decide) (fun e h => by rw [List.mem_singleton] at h; rw [h]; exact betV_ok a b h1 h2 hva) hr he).mono ?_
          rintro e w'' ⟨x, hx, rfl, hbb⟩
          rw [show [betV a b].map EdV.l = [(betV a b).l] from rfl, betV_l, bet_apply _ _ hva hvb (by rw [← size_eq]; omega)] at hx ⊢
          obtain rfl : x = b := data_inj hx
          exact ⟨rfl, hbb⟩
        have cA2 : ∀ w' B, RdE w' (some ⟨B, 0, none⟩) [betV b a] → Env w' → Calls Tryd.prog 24 #[.string b, .slice (some ⟨B, 0, none⟩) 1 1] w' (fun e w'' => e = .returned (.tuple #[.string a, .int .i64 0]) ∧ Below w'.heap.size w' w'') := fun w' B hr he => by
          refine (edApply_any b (some ⟨B, 0, none⟩) 1 [betV b a] w' (by omega) (show 1 ≤ 1048576 by decide) (fun e h => by rw [List.mem_singleton] at h; rw [h]; exact betV_ok b a h2 h1 hvb) hr he).mono ?_
          rintro e w'' ⟨x, hx, rfl, hbb⟩
          rw [show [betV b a].map EdV.l = [(betV b a).l] from rfl, betV_l, bet_apply _ _ hvb hva (by rw [← size_eq]; omega)] at hx ⊢
          obtain rfl : x = a := data_inj hx
          exact ⟨rfl, hbb⟩
        have hfrom := bet_from a.data.toList b.data.toList hva hvb
        have hemp := bet_empty a.data.toList b.data.toList hva hvb
        have hbl := betV_l a b
        have hf1 : (betV b a).fl = (betV a b).fl := by
          show (((placeP b.data.toList (begN b.data.toList a.data.toList : Nat)).1 : Nat) : Int) = _
          rw [hfrom]
          rfl
        have hf2 : (betV b a).fu = (betV a b).fu := by
          show (((placeP b.data.toList (begN b.data.toList a.data.toList : Nat)).2.1 : Nat) : Int) = _
          rw [hfrom]
          rfl
        have hpl1 := placeP_take _ hva _ (beg_start a.data.toList b.data.toList hva)
        have hpl2 := placeP_take _ hva _ (fin_start a.data.toList b.data.toList hva)
        have hE3 : a = b ↔ ((betV a b).fl = (betV a b).tl ∧ (betV a b).fu = (betV a b).tu ∧ (betV a b).t = ⟨#[]⟩) := by
          have e1 : (betV a b).t.data.toList = midL a.data.toList b.data.toList := by rw [show (betV a b).t.data.toList = (betV a b).l.t from rfl, hbl]; rfl
          have e2 : a = b ↔ a.data.toList = b.data.toList := ⟨fun h => by rw [h], fun h => data_inj h⟩
          rw [e2, hemp]
          constructor
          · rintro ⟨h3, h4⟩
            refine ⟨?_, ?_, ?_⟩
            · show (((placeP a.data.toList (begN a.data.toList b.data.toList : Nat)).1 : Nat) : Int) = _
              rw [h3]
              rfl
            · show (((placeP a.data.toList (begN a.data.toList b.data.toList : Nat)).2.1 : Nat) : Int) = _
              rw [h3]
              rfl
            · exact data_inj (by rw [e1, h4])
          · rintro ⟨h3, h4, h5⟩
            refine ⟨?_, by rw [← e1, h5]⟩
            have k1 : (((placeP a.data.toList (begN a.data.toList b.data.toList : Nat)).1 : Nat) : Int) = ((placeP a.data.toList ((a.data.toList.length - finR a.data.toList b.data.toList : Nat) : Int)).1 : Nat) := h3
            have k2 : (((placeP a.data.toList (begN a.data.toList b.data.toList : Nat)).2.1 : Nat) : Int) = ((placeP a.data.toList ((a.data.toList.length - finR a.data.toList b.data.toList : Nat) : Int)).2.1 : Nat) := h4
            have k3 : (placeP a.data.toList (begN a.data.toList b.data.toList : Nat)).2.2 = 0 := by rw [hpl1]
            have k4 : (placeP a.data.toList ((a.data.toList.length - finR a.data.toList b.data.toList : Nat) : Int)).2.2 = 0 := by rw [hpl2]
            exact Prod.ext (by omega) (Prod.ext (by omega) (by rw [k3, k4]))
        clear hfrom hemp hbl hpl1 hpl2 hE
        obtain ⟨V, hV⟩ : ∃ V, V = betV a b := ⟨_, rfl⟩
        obtain ⟨U, hU⟩ : ∃ U, U = betV b a := ⟨_, rfl⟩
        rw [← hV] at cB cA hf1 hf2 hE3
        rw [← hU] at cB2 cA2 hf1 hf2
        clear hV hU hva hvb
        obtain ⟨p1, q1, p2, q2, t⟩ := V
        obtain ⟨p3, q3, p4, q4, u⟩ := U
        simp only at hf1 hf2 hE3
        subst hf1 hf2
        have cB' : ∀ w', Env w' → Calls Tryd.prog 26 #[.string a, .string b] w' (fun e w'' => e = .returned (.tuple #[.agg #[.int .i64 p3, .int .i64 q3, .int .i64 p2, .int .i64 q2, .string t], .int .i64 0]) ∧ Below w'.heap.size w' w'') := cB
        have cC' : ∀ w', Env w' → Calls Tryd.prog 26 #[.string b, .string a] w' (fun e w'' => e = .returned (.tuple #[.agg #[.int .i64 p3, .int .i64 q3, .int .i64 p4, .int .i64 q4, .string u], .int .i64 0]) ∧ Below w'.heap.size w' w'') := cB2
        have hA : ∀ w', Env w' → Calls Tryd.prog 24 #[.string a, .slice (some ⟨w'.heap.size + 1, 0, none⟩) 1 1] ((w'.alloc (.cells #[.int .i64 p3, .int .i64 q3, .int .i64 p2, .int .i64 q2, .string t] 51)).alloc (.cells #[.int .i64 p3, .int .i64 q3, .int .i64 p2, .int .i64 q2, .string t] 51)) (fun e w'' => e = .returned (.tuple #[.string b, .int .i64 0]) ∧ Below ((w'.alloc (.cells #[.int .i64 p3, .int .i64 q3, .int .i64 p2, .int .i64 q2, .string t] 51)).alloc (.cells #[.int .i64 p3, .int .i64 q3, .int .i64 p2, .int .i64 q2, .string t] 51)).heap.size ((w'.alloc (.cells #[.int .i64 p3, .int .i64 q3, .int .i64 p2, .int .i64 q2, .string t] 51)).alloc (.cells #[.int .i64 p3, .int .i64 q3, .int .i64 p2, .int .i64 q2, .string t] 51)) w'') := fun w' he => by
          have hr := rdE_one (w'.alloc (.cells #[.int .i64 p3, .int .i64 q3, .int .i64 p2, .int .i64 q2, .string t] 51)) ⟨p3, q3, p2, q2, t⟩ 51
          rw [World.size_alloc] at hr
          exact cA _ _ hr ((he.below (bal w' _)).below (bal _ _))
        have hA2 : ∀ w', Env w' → Calls Tryd.prog 24 #[.string b, .slice (some ⟨w'.heap.size + 1, 0, none⟩) 1 1] ((w'.alloc (.cells #[.int .i64 p3, .int .i64 q3, .int .i64 p4, .int .i64 q4, .string u] 51)).alloc (.cells #[.int .i64 p3, .int .i64 q3, .int .i64 p4, .int .i64 q4, .string u] 51)) (fun e w'' => e = .returned (.tuple #[.string a, .int .i64 0]) ∧ Below ((w'.alloc (.cells #[.int .i64 p3, .int .i64 q3, .int .i64 p4, .int .i64 q4, .string u] 51)).alloc (.cells #[.int .i64 p3, .int .i64 q3, .int .i64 p4, .int .i64 q4, .string u] 51)).heap.size ((w'.alloc (.cells #[.int .i64 p3, .int .i64 q3, .int .i64 p4, .int .i64 q4, .string u] 51)).alloc (.cells #[.int .i64 p3, .int .i64 q3, .int .i64 p4, .int .i64 q4, .string u] 51)) w'') := fun w' he => by
          have hr := rdE_one (w'.alloc (.cells #[.int .i64 p3, .int .i64 q3, .int .i64 p4, .int .i64 q4, .string u] 51)) ⟨p3, q3, p4, q4, u⟩ 51
          rw [World.size_alloc] at hr
          exact cA2 _ _ hr ((he.below (bal w' _)).below (bal _ _))
        have HB := Lib.hid cB'
        have HC := Lib.hid cC'
        have HA := Lib.hid hA
        have HA2 := Lib.hid hA2
        clear cB cB2 cA cA2 cB' cC' hA hA2
        -- main
        by_cases hab : a = b
        · obtain ⟨h3, h4, h5⟩ := hE3.1 hab
          subst hab h3 h4 h5
          clear hE3
          go_enter Tryd.func9, Tryd.ntmps9
          go_wp2_with (first
            | (go_at_call 23; refine (HL.out _ (HE.out.below (bth hw4 (bal w4 (.cells #[.int .i64 p3, .int .i64 q3, .int .i64 p3, .int .i64 q3, .string ⟨#[]⟩] 51))))).mono ?_; rintro e w5 ⟨rfl, hb5⟩; obtain ⟨hn, _⟩ := boxes1 hb5; have n0 := hn 0 _ rfl; have n1 := hn 1 _ rfl; have n2 := hn 2 _ rfl; have n3 := hn 3 _ rfl; have n4 := hn 4 _ rfl; have s5 := bth (bal w4 (.cells #[.int .i64 p3, .int .i64 q3, .int .i64 p3, .int .i64 q3, .string ⟨#[]⟩] 51)) hb5; obtain ⟨hr, _⟩ := boxes1 (bth r34 s5); have r0 := hr 0 _ rfl; have r1 := hr 1 _ rfl; have r2 := hr 2 _ rfl; have r3 := hr 3 _ rfl; have r4 := hr 4 _ rfl; obtain ⟨hk, _⟩ := boxes1 (bth q14 s5); have k0 := hk 0 _ rfl; have k1 := hk 1 _ rfl; have k2 := hk 2 _ rfl; have k3 := hk 3 _ rfl; have k4 := hk 4 _ rfl; have hw5 := bth hw4 s5)
            | (go_at_call 24; refine (HA2.out w3 (HE.out.below hw3)).mono ?_; rintro e w4 ⟨rfl, hb4⟩; have r34 := bth (bal (w3.alloc (.cells #[.int .i64 p3, .int .i64 q3, .int .i64 p4, .int .i64 q4, .string u] 51)) (.cells #[.int .i64 p3, .int .i64 q3, .int .i64 p4, .int .i64 q4, .string u] 51)) hb4; have q14 := bth q13 (bth (bal w3 (.cells #[.int .i64 p3, .int .i64 q3, .int .i64 p4, .int .i64 q4, .string u] 51)) r34); have hw4 := bth hw3 (bth (bal w3 (.cells #[.int .i64 p3, .int .i64 q3, .int .i64 p4, .int .i64 q4, .string u] 51)) r34); obtain ⟨hc, _⟩ := boxes1 q14; have c0 := hc 0 _ rfl; have c1 := hc 1 _ rfl; have c2 := hc 2 _ rfl; have c3 := hc 3 _ rfl; have c4 := hc 4 _ rfl; clear hb4)
            | (go_at_call 26; refine (HC.out _ (HE.out.below hw2)).mono ?_; rintro e w3 ⟨rfl, hb3⟩; have q13 := bth q12 hb3; have hw3 := bth hw2 hb3)
            | (go_at_call 24; refine (HA.out w1 (HE.out.below hb1)).mono ?_; rintro e w2 ⟨rfl, hb2⟩; have q12 := bth (bal (w1.alloc (.cells #[.int .i64 p3, .int .i64 q3, .int .i64 p3, .int .i64 q3, .string ⟨#[]⟩] 51)) (.cells #[.int .i64 p3, .int .i64 q3, .int .i64 p3, .int .i64 q3, .string ⟨#[]⟩] 51)) hb2; have hw2 := bth hb1 (bth (bal w1 (.cells #[.int .i64 p3, .int .i64 q3, .int .i64 p3, .int .i64 q3, .string ⟨#[]⟩] 51)) q12); clear hb2)
            | (go_at_call 26; refine (HB.out _ HE.out).mono ?_; rintro e w1 ⟨rfl, hb1⟩))
          go_ret
          exact ⟨rfl, hw5⟩
        · have hn : ¬ (p3 = p2 ∧ q3 = q2 ∧ t = ⟨#[]⟩) := fun h => hab (hE3.2 h)
          have habz : (a.toList == b.toList) = false := str_ne a b hab
          clear hE3 hab
          by_cases h3 : p2 = p3
          · subst h3
            by_cases h4 : q2 = q3
            · subst h4
              have h5 : (t.toList == (⟨#[]⟩ : ByteArray).toList) = false := str_ne t _ fun h => hn ⟨rfl, rfl, h⟩
              have h6 : (t.toList == []) = false := by simpa using h5
              clear hn
              go_enter Tryd.func9, Tryd.ntmps9
              go_wp2_with (first
                | (go_at_call 23; refine (HL.out _ (HE.out.below (bth hw4 (bal w4 (.cells #[.int .i64 p2, .int .i64 q2, .int .i64 p2, .int .i64 q2, .string ⟨#[]⟩] 51))))).mono ?_; rintro e w5 ⟨rfl, hb5⟩; obtain ⟨hn, _⟩ := boxes1 hb5; have n0 := hn 0 _ rfl; have n1 := hn 1 _ rfl; have n2 := hn 2 _ rfl; have n3 := hn 3 _ rfl; have n4 := hn 4 _ rfl; have s5 := bth (bal w4 (.cells #[.int .i64 p2, .int .i64 q2, .int .i64 p2, .int .i64 q2, .string ⟨#[]⟩] 51)) hb5; obtain ⟨hr, _⟩ := boxes1 (bth r34 s5); have r0 := hr 0 _ rfl; have r1 := hr 1 _ rfl; have r2 := hr 2 _ rfl; have r3 := hr 3 _ rfl; have r4 := hr 4 _ rfl; obtain ⟨hk, _⟩ := boxes1 (bth q14 s5); have k0 := hk 0 _ rfl; have k1 := hk 1 _ rfl; have k2 := hk 2 _ rfl; have k3 := hk 3 _ rfl; have k4 := hk 4 _ rfl; have hw5 := bth hw4 s5)
                | (go_at_call 24; refine (HA2.out w3 (HE.out.below hw3)).mono ?_; rintro e w4 ⟨rfl, hb4⟩; have r34 := bth (bal (w3.alloc (.cells #[.int .i64 p2, .int .i64 q2, .int .i64 p4, .int .i64 q4, .string u] 51)) (.cells #[.int .i64 p2, .int .i64 q2, .int .i64 p4, .int .i64 q4, .string u] 51)) hb4; have q14 := bth q13 (bth (bal w3 (.cells #[.int .i64 p2, .int .i64 q2, .int .i64 p4, .int .i64 q4, .string u] 51)) r34); have hw4 := bth hw3 (bth (bal w3 (.cells #[.int .i64 p2, .int .i64 q2, .int .i64 p4, .int .i64 q4, .string u] 51)) r34); obtain ⟨hc, _⟩ := boxes1 q14; have c0 := hc 0 _ rfl; have c1 := hc 1 _ rfl; have c2 := hc 2 _ rfl; have c3 := hc 3 _ rfl; have c4 := hc 4 _ rfl; clear hb4)
                | (go_at_call 26; refine (HC.out _ (HE.out.below hw2)).mono ?_; rintro e w3 ⟨rfl, hb3⟩; have q13 := bth q12 hb3; have hw3 := bth hw2 hb3)
                | (go_at_call 24; refine (HA.out w1 (HE.out.below hb1)).mono ?_; rintro e w2 ⟨rfl, hb2⟩; have q12 := bth (bal (w1.alloc (.cells #[.int .i64 p2, .int .i64 q2, .int .i64 p2, .int .i64 q2, .string t] 51)) (.cells #[.int .i64 p2, .int .i64 q2, .int .i64 p2, .int .i64 q2, .string t] 51)) hb2; have hw2 := bth hb1 (bth (bal w1 (.cells #[.int .i64 p2, .int .i64 q2, .int .i64 p2, .int .i64 q2, .string t] 51)) q12); clear hb2)
                | (go_at_call 26; refine (HB.out _ HE.out).mono ?_; rintro e w1 ⟨rfl, hb1⟩))
              go_ret
              exact ⟨rfl, hw5⟩
            · have h4z : (q2 == q3) = false := by rw [beq_eq_false_iff_ne]; exact h4
              clear hn h4
              go_enter Tryd.func9, Tryd.ntmps9
              go_wp2_with (first
                | (go_at_call 23; refine (HL.out _ (HE.out.below (bth hw4 (bal w4 (.cells #[.int .i64 p2, .int .i64 q3, .int .i64 p2, .int .i64 q3, .string ⟨#[]⟩] 51))))).mono ?_; rintro e w5 ⟨rfl, hb5⟩; obtain ⟨hn, _⟩ := boxes1 hb5; have n0 := hn 0 _ rfl; have n1 := hn 1 _ rfl; have n2 := hn 2 _ rfl; have n3 := hn 3 _ rfl; have n4 := hn 4 _ rfl; have s5 := bth (bal w4 (.cells #[.int .i64 p2, .int .i64 q3, .int .i64 p2, .int .i64 q3, .string ⟨#[]⟩] 51)) hb5; obtain ⟨hr, _⟩ := boxes1 (bth r34 s5); have r0 := hr 0 _ rfl; have r1 := hr 1 _ rfl; have r2 := hr 2 _ rfl; have r3 := hr 3 _ rfl; have r4 := hr 4 _ rfl; obtain ⟨hk, _⟩ := boxes1 (bth q14 s5); have k0 := hk 0 _ rfl; have k1 := hk 1 _ rfl; have k2 := hk 2 _ rfl; have k3 := hk 3 _ rfl; have k4 := hk 4 _ rfl; have hw5 := bth hw4 s5)
                | (go_at_call 24; refine (HA2.out w3 (HE.out.below hw3)).mono ?_; rintro e w4 ⟨rfl, hb4⟩; have r34 := bth (bal (w3.alloc (.cells #[.int .i64 p2, .int .i64 q3, .int .i64 p4, .int .i64 q4, .string u] 51)) (.cells #[.int .i64 p2, .int .i64 q3, .int .i64 p4, .int .i64 q4, .string u] 51)) hb4; have q14 := bth q13 (bth (bal w3 (.cells #[.int .i64 p2, .int .i64 q3, .int .i64 p4, .int .i64 q4, .string u] 51)) r34); have hw4 := bth hw3 (bth (bal w3 (.cells #[.int .i64 p2, .int .i64 q3, .int .i64 p4, .int .i64 q4, .string u] 51)) r34); obtain ⟨hc, _⟩ := boxes1 q14; have c0 := hc 0 _ rfl; have c1 := hc 1 _ rfl; have c2 := hc 2 _ rfl; have c3 := hc 3 _ rfl; have c4 := hc 4 _ rfl; clear hb4)
                | (go_at_call 26; refine (HC.out _ (HE.out.below hw2)).mono ?_; rintro e w3 ⟨rfl, hb3⟩; have q13 := bth q12 hb3; have hw3 := bth hw2 hb3)
                | (go_at_call 24; refine (HA.out w1 (HE.out.below hb1)).mono ?_; rintro e w2 ⟨rfl, hb2⟩; have q12 := bth (bal (w1.alloc (.cells #[.int .i64 p2, .int .i64 q3, .int .i64 p2, .int .i64 q2, .string t] 51)) (.cells #[.int .i64 p2, .int .i64 q3, .int .i64 p2, .int .i64 q2, .string t] 51)) hb2; have hw2 := bth hb1 (bth (bal w1 (.cells #[.int .i64 p2, .int .i64 q3, .int .i64 p2, .int .i64 q2, .string t] 51)) q12); clear hb2)
                | (go_at_call 26; refine (HB.out _ HE.out).mono ?_; rintro e w1 ⟨rfl, hb1⟩))
              go_ret
              exact ⟨rfl, hw5⟩
          · have h3z : (p2 == p3) = false := by rw [beq_eq_false_iff_ne]; exact h3
            clear hn h3
            go_enter Tryd.func9, Tryd.ntmps9
            go_wp2_with (first
              | (go_at_call 23; refine (HL.out _ (HE.out.below (bth hw4 (bal w4 (.cells #[.int .i64 p3, .int .i64 q3, .int .i64 p3, .int .i64 q3, .string ⟨#[]⟩] 51))))).mono ?_; rintro e w5 ⟨rfl, hb5⟩; obtain ⟨hn, _⟩ := boxes1 hb5; have n0 := hn 0 _ rfl; have n1 := hn 1 _ rfl; have n2 := hn 2 _ rfl; have n3 := hn 3 _ rfl; have n4 := hn 4 _ rfl; have s5 := bth (bal w4 (.cells #[.int .i64 p3, .int .i64 q3, .int .i64 p3, .int .i64 q3, .string ⟨#[]⟩] 51)) hb5; obtain ⟨hr, _⟩ := boxes1 (bth r34 s5); have r0 := hr 0 _ rfl; have r1 := hr 1 _ rfl; have r2 := hr 2 _ rfl; have r3 := hr 3 _ rfl; have r4 := hr 4 _ rfl; obtain ⟨hk, _⟩ := boxes1 (bth q14 s5); have k0 := hk 0 _ rfl; have k1 := hk 1 _ rfl; have k2 := hk 2 _ rfl; have k3 := hk 3 _ rfl; have k4 := hk 4 _ rfl; have hw5 := bth hw4 s5)
              | (go_at_call 24; refine (HA2.out w3 (HE.out.below hw3)).mono ?_; rintro e w4 ⟨rfl, hb4⟩; have r34 := bth (bal (w3.alloc (.cells #[.int .i64 p3, .int .i64 q3, .int .i64 p4, .int .i64 q4, .string u] 51)) (.cells #[.int .i64 p3, .int .i64 q3, .int .i64 p4, .int .i64 q4, .string u] 51)) hb4; have q14 := bth q13 (bth (bal w3 (.cells #[.int .i64 p3, .int .i64 q3, .int .i64 p4, .int .i64 q4, .string u] 51)) r34); have hw4 := bth hw3 (bth (bal w3 (.cells #[.int .i64 p3, .int .i64 q3, .int .i64 p4, .int .i64 q4, .string u] 51)) r34); obtain ⟨hc, _⟩ := boxes1 q14; have c0 := hc 0 _ rfl; have c1 := hc 1 _ rfl; have c2 := hc 2 _ rfl; have c3 := hc 3 _ rfl; have c4 := hc 4 _ rfl; clear hb4)
              | (go_at_call 26; refine (HC.out _ (HE.out.below hw2)).mono ?_; rintro e w3 ⟨rfl, hb3⟩; have q13 := bth q12 hb3; have hw3 := bth hw2 hb3)
              | (go_at_call 24; refine (HA.out w1 (HE.out.below hb1)).mono ?_; rintro e w2 ⟨rfl, hb2⟩; have q12 := bth (bal (w1.alloc (.cells #[.int .i64 p3, .int .i64 q3, .int .i64 p2, .int .i64 q2, .string t] 51)) (.cells #[.int .i64 p3, .int .i64 q3, .int .i64 p2, .int .i64 q2, .string t] 51)) hb2; have hw2 := bth hb1 (bth (bal w1 (.cells #[.int .i64 p3, .int .i64 q3, .int .i64 p2, .int .i64 q2, .string t] 51)) q12); clear hb2)
              | (go_at_call 26; refine (HB.out _ HE.out).mono ?_; rintro e w1 ⟨rfl, hb1⟩))
            go_ret
            exact ⟨rfl, hw5⟩
      · have cB : ∀ w', Env w' → Calls Tryd.prog 26 #[.string a, .string b] w' (fun e w'' => e = .returned (.tuple #[.agg #[.int .i64 0, .int .i64 0, .int .i64 0, .int .i64 0, .string ⟨#[]⟩], .int .i64 11]) ∧ Below w'.heap.size w' w'') := fun w' he => edBetween_not a b w' (by omega) (by omega) hv he
        have HB := Lib.hid cB
        clear cB hv hE
        go_enter Tryd.func9, Tryd.ntmps9
        go_wp2_with (first
          | (go_at_call 23; refine (HL.out _ (HE.out.below (bth hb1 (bal w1 (.cells #[.int .i64 0, .int .i64 0, .int .i64 0, .int .i64 0, .string ⟨#[]⟩] 51))))).mono ?_; rintro e w5 ⟨rfl, hb5⟩; have hw5 := bth (bth hb1 (bal w1 (.cells #[.int .i64 0, .int .i64 0, .int .i64 0, .int .i64 0, .string ⟨#[]⟩] 51))) hb5)
          | (go_at_call 26; refine (HB.out _ HE.out).mono ?_; rintro e w1 ⟨rfl, hb1⟩))
        go_ret
        exact ⟨rfl, hw5⟩
    · have h1z : (a.size : Int) ≤ 300 := by omega
      have h2z : (300 : Int) < (b.size : Int) := by omega
      clear hE
      go_enter Tryd.func9, Tryd.ntmps9
      go_wp2_with (go_at_call 23; refine (HL.out _ HE.out).mono ?_; rintro e w5 ⟨rfl, hb5⟩)
      go_ret
      exact ⟨rfl, hb5⟩
  · have h1z : (300 : Int) < (a.size : Int) := by omega
    clear hE
    go_enter Tryd.func9, Tryd.ntmps9
    go_wp2_with (go_at_call 23; refine (HL.out _ HE.out).mono ?_; rintro e w5 ⟨rfl, hb5⟩)
    go_ret
    exact ⟨rfl, hb5⟩
end Go.Proofs.YtadkjeefiacdbaaDoor
