/-
  THE WALK of the document's Move. Conditions: stated at each.
-/
import Derived.Test.YtadkjeefiacdbaaDoorEdH
set_option linter.unusedVariables false
set_option linter.unusedSimpArgs false
namespace Go.Proofs.YtadkjeefiacdbaaDoor
open Go.RowKit Go.Lib Go.Shelf

theorem data_inj {a b : ByteArray} (h : a.data.toList = b.data.toList) : a = b := ByteArray.ext (Array.ext' h)
theorem applyL_one (l : List UInt8) (e : EdL) : applyL l [e] = ((edOne l e).1, (edOne l e).2.2.2) := by
  unfold applyL
  by_cases hv : validD l = true
  · rw [if_pos hv]
    by_cases h : (edOne l e).2.2.2 = 0
    · rw [applyGo_ok h, h]
      rfl
    · rw [applyGo_no h]
      have : (edOne l e).1 = [] := by
        unfold edOne at h ⊢
        split
        · rename_i h1
          rw [if_pos h1] at h
          split
          · rfl
          · rename_i h2
            rw [if_neg h2] at h
            exact absurd rfl h
        · rfl
      rw [this]
  · rw [if_neg hv]
    have h1 : edFind l e = (0, 0, 11) := by
      unfold edFind
      rw [if_neg fun h => hv h.1]
    unfold edOne
    rw [h1]
    rfl
theorem rdE_one (w : World) (e : EdV) (t : TypeId) : RdE (w.alloc (.cells e.cells t)) (some ⟨w.heap.size, 0, none⟩) [e] := by
  intro i hi
  have h0 : i = 0 := by
    rw [List.length_singleton] at hi
    omega
  subst h0
  have h := Below.refl (w.alloc (.cells e.cells t)).heap.size (w.alloc (.cells e.cells t))
  refine ⟨w.heap.size, 0, rfl, by rw [World.size_alloc]; omega, ?_, ?_, ?_, ?_, ?_⟩
  · exact boxN h 0 rfl
  · exact boxN h 1 rfl
  · exact boxN h 2 rfl
  · exact boxN h 3 rfl
  · exact boxN h 4 rfl

set_option maxRecDepth 100000 in
set_option maxHeartbeats 1000000 in
theorem refMove_any (s : ByteArray) (fl fu tl tu : Int) (t : ByteArray) (x : Int) (w : World) (hs : s.size ≤ 4194304) (ht : t.size ≤ 4194304) (hfu : fu ≤ 9223372036854775807) (htu : tu ≤ 9223372036854775807) (hx : -9223372036854775808 ≤ x ∧ x ≤ 9223372036854775807) (hE : Env w) :
    Calls Tryd.prog 29 #[.string s, .agg #[.int .i64 fl, .int .i64 fu, .int .i64 tl, .int .i64 tu, .string t], .int .i64 x] w (Post2 (moveL s.data.toList ⟨fl, fu, tl, tu, t.data.toList⟩ x) w) := by
  obtain ⟨e, he⟩ : ∃ e : EdL, e = ⟨fl, fu, tl, tu, t.data.toList⟩ := ⟨_, rfl⟩
  have et : e.t.length = t.size := by rw [he, size_eq]
  have hok : ∀ v ∈ [(⟨fl, fu, tl, tu, t⟩ : EdV)], v.Ok := fun v hv => by
    rw [List.mem_singleton] at hv
    subst hv
    exact ⟨hfu, htu, ht⟩
  have cA : ∀ w' B, RdE w' (some ⟨B, 0, none⟩) [(⟨fl, fu, tl, tu, t⟩ : EdV)] → Calls Tryd.prog 25 #[.string s, .slice (some ⟨B, 0, none⟩) 1 1] w' (ApPost ((edOne s.data.toList e).1, (edOne s.data.toList e).2.2.2) w') := fun w' B hr => by
    have := refApply_any s (some ⟨B, 0, none⟩) 1 [⟨fl, fu, tl, tu, t⟩] w' hs (show 1 ≤ 1048576 by decide) hok hr
    rw [show [(⟨fl, fu, tl, tu, t⟩ : EdV)].map EdV.l = [e] by rw [he]; rfl, applyL_one] at this
    exact this
  have cN : validD s.data.toList = true → ∀ w', Calls Tryd.prog 39 #[.string s, .agg #[.int .i64 fl, .int .i64 fu, .int .i64 tl, .int .i64 tu, .string t]] w' (Post3 (edFind s.data.toList e) w') := fun hv w' => by
    rw [he]
    exact refEnds_any s fl fu tl tu t w' hs ht hv
  have hre : RdE ((w.alloc (.cells #[.int .i64 fl, .int .i64 fu, .int .i64 tl, .int .i64 tu, .string t] 51)).alloc (.cells #[.int .i64 fl, .int .i64 fu, .int .i64 tl, .int .i64 tu, .string t] 51)) (some ⟨w.heap.size + 1, 0, none⟩) [(⟨fl, fu, tl, tu, t⟩ : EdV)] := by
    have := rdE_one (w.alloc (.cells #[.int .i64 fl, .int .i64 fu, .int .i64 tl, .int .i64 tu, .string t] 51)) ⟨fl, fu, tl, tu, t⟩ 51
    rw [World.size_alloc] at this
    exact this
  have HRE := Lib.hid hre
  clear hre
  rw [← he]
  obtain ⟨⟨a, c, er⟩, hp⟩ : ∃ z, z = (edOne s.data.toList e).2 := ⟨_, rfl⟩
  have hlen : s.data.toList.length = s.size := (size_eq s).symm
  have hM : moveL s.data.toList e x = if er = 0 then (if x < 0 ∨ (s.size : Int) < x then (0, 51) else if x ≤ (a : Nat) then (x.toNat, 0) else if (c : Nat) ≤ x then ((edOne s.data.toList e).1.length + x.toNat - s.size, 0) else (a + t.size, 0)) else (0, er) := by
    unfold moveL
    rw [← hp, hlen, et]
  rw [hM]
  rw [← hp] at cA
  by_cases h1 : er = 0
  · rw [if_pos h1]
    subst h1
    have hE0 : (edOne s.data.toList e).2.2.2 = 0 := by rw [← hp]
    obtain ⟨hf0, hf1, _⟩ := edOne_ok hE0
    obtain ⟨hv, hvt, hoa, hoc, hac⟩ := edFind_ok hf0
    have hcl := edFind_le hf0
    have htl := edText_length s.data.toList e.t _ _ hac hcl
    have hF : edFind s.data.toList e = (a, c, 0) := by
      rw [hf1] at hp
      simp only [Prod.mk.injEq] at hp
      obtain ⟨rfl, rfl, _⟩ := hp
      exact Prod.ext rfl (Prod.ext rfl hf0)
    replace cN := cN hv
    rw [hF] at cN htl hac hcl
    have hL1 : (edOne s.data.toList e).1.length + (c - a) = s.size + t.size := by
      rw [hf1, hF, ← hlen, ← et]
      exact htl
    have hL2 : a ≤ c := hac
    have hL3 : c ≤ s.size := by rw [← hlen]; exact hcl
    rw [← edB_data, ← size_eq] at hL1 ⊢
    rw [← edB_data] at cA
    obtain ⟨nx, hnx⟩ : ∃ nx, nx = edB s e := ⟨_, rfl⟩
    rw [← hnx] at hL1 cA ⊢
    have HA := Lib.hid cA
    have HN := Lib.hid cN
    have hY : ∀ y : ByteArray, y.data.toList = nx.data.toList → nx = y := fun y h => (data_inj h).symm
    have HY := Lib.hid hY
    clear cA cN hM hE0 hf0 hf1 hv hvt hoa hoc hac hcl htl hF hp he et hlen hnx hok hY hE
    have hnz : nx.size ≤ 8388608 := by omega
    by_cases h2 : x < 0 ∨ (s.size : Int) < x
    · rw [if_pos h2]
      by_cases h3 : x < 0
      · clear h2
        go_enter Tryd.func29, Tryd.ntmps29
        go_wp2_with (first
          | (go_at_call 39; refine (HN.out _).mono ?_; rintro e w2 ⟨rfl, hb2⟩; replace hb2 := bth hb1 hb2; obtain ⟨hbc, hbw⟩ := boxes1 hb2; have hc4 := hbc 4 _ rfl)
          | (go_at_call 25; refine (HA.out _ _ HRE.out).mono ?_; rintro e w1 ⟨y, hy, rfl, hb1⟩; replace hb1 := bth (bal (w.alloc (.cells #[.int .i64 fl, .int .i64 fu, .int .i64 tl, .int .i64 tu, .string t] 51)) (.cells #[.int .i64 fl, .int .i64 fu, .int .i64 tl, .int .i64 tu, .string t] 51)) hb1; obtain ⟨hbc1, hbw1⟩ := boxes1 hb1; have hc0a := hbc1 0 _ rfl; have hc1a := hbc1 1 _ rfl; have hc2a := hbc1 2 _ rfl; have hc3a := hbc1 3 _ rfl; have hc4a := hbc1 4 _ rfl; obtain rfl := HY.out y hy; clear hy))
        (try simp only [Exit.inBlock, Exit.then])
        go_ret2
        exact ⟨rfl, hbw⟩
      · have h4 : (s.size : Int) < x := by omega
        have h3' : decide (x < 0) = false := decide_eq_false h3
        clear h2
        go_enter Tryd.func29, Tryd.ntmps29
        go_wp2_with (first
          | (go_at_call 39; refine (HN.out _).mono ?_; rintro e w2 ⟨rfl, hb2⟩; replace hb2 := bth hb1 hb2; obtain ⟨hbc, hbw⟩ := boxes1 hb2; have hc4 := hbc 4 _ rfl)
          | (go_at_call 25; refine (HA.out _ _ HRE.out).mono ?_; rintro e w1 ⟨y, hy, rfl, hb1⟩; replace hb1 := bth (bal (w.alloc (.cells #[.int .i64 fl, .int .i64 fu, .int .i64 tl, .int .i64 tu, .string t] 51)) (.cells #[.int .i64 fl, .int .i64 fu, .int .i64 tl, .int .i64 tu, .string t] 51)) hb1; obtain ⟨hbc1, hbw1⟩ := boxes1 hb1; have hc0a := hbc1 0 _ rfl; have hc1a := hbc1 1 _ rfl; have hc2a := hbc1 2 _ rfl; have hc3a := hbc1 3 _ rfl; have hc4a := hbc1 4 _ rfl; obtain rfl := HY.out y hy; clear hy))
        (try simp only [Exit.inBlock, Exit.then])
        go_ret2
        exact ⟨rfl, hbw⟩
    · rw [if_neg h2]
      have h3 : 0 ≤ x := by omega
      have h4 : x ≤ (s.size : Int) := by omega
      have h3' : decide (x < 0) = false := decide_eq_false (by omega)
      have h4' : decide ((s.size : Int) < x) = false := decide_eq_false (by omega)
      obtain ⟨k, rfl⟩ : ∃ k : Nat, x = k := ⟨x.toNat, by omega⟩
      clear h2
      by_cases h5 : (k : Int) ≤ (a : Nat)
      · rw [if_pos h5]
        go_enter Tryd.func29, Tryd.ntmps29
        go_wp2_with (first
          | (go_at_call 39; refine (HN.out _).mono ?_; rintro e w2 ⟨rfl, hb2⟩; replace hb2 := bth hb1 hb2; obtain ⟨hbc, hbw⟩ := boxes1 hb2; have hc4 := hbc 4 _ rfl)
          | (go_at_call 25; refine (HA.out _ _ HRE.out).mono ?_; rintro e w1 ⟨y, hy, rfl, hb1⟩; replace hb1 := bth (bal (w.alloc (.cells #[.int .i64 fl, .int .i64 fu, .int .i64 tl, .int .i64 tu, .string t] 51)) (.cells #[.int .i64 fl, .int .i64 fu, .int .i64 tl, .int .i64 tu, .string t] 51)) hb1; obtain ⟨hbc1, hbw1⟩ := boxes1 hb1; have hc0a := hbc1 0 _ rfl; have hc1a := hbc1 1 _ rfl; have hc2a := hbc1 2 _ rfl; have hc3a := hbc1 3 _ rfl; have hc4a := hbc1 4 _ rfl; obtain rfl := HY.out y hy; clear hy))
        (try simp only [Exit.inBlock, Exit.then])
        go_ret2
        exact ⟨rfl, hbw⟩
      · rw [if_neg h5]
        by_cases h6 : ((c : Nat) : Int) ≤ (k : Int)
        · rw [if_pos h6]
          go_enter Tryd.func29, Tryd.ntmps29
          go_wp2_with (first
            | (go_at_call 39; refine (HN.out _).mono ?_; rintro e w2 ⟨rfl, hb2⟩; replace hb2 := bth hb1 hb2; obtain ⟨hbc, hbw⟩ := boxes1 hb2; have hc4 := hbc 4 _ rfl)
            | (go_at_call 25; refine (HA.out _ _ HRE.out).mono ?_; rintro e w1 ⟨y, hy, rfl, hb1⟩; replace hb1 := bth (bal (w.alloc (.cells #[.int .i64 fl, .int .i64 fu, .int .i64 tl, .int .i64 tu, .string t] 51)) (.cells #[.int .i64 fl, .int .i64 fu, .int .i64 tl, .int .i64 tu, .string t] 51)) hb1; obtain ⟨hbc1, hbw1⟩ := boxes1 hb1; have hc0a := hbc1 0 _ rfl; have hc1a := hbc1 1 _ rfl; have hc2a := hbc1 2 _ rfl; have hc3a := hbc1 3 _ rfl; have hc4a := hbc1 4 _ rfl; obtain rfl := HY.out y hy; clear hy))
          (try simp only [Exit.inBlock, Exit.then])
          go_ret2
          exact ⟨by rw [Int.toNat_natCast]; exact congrArg (fun z => Ending.returned (.tuple #[.int .i64 z, .int .i64 0])) (by simp; omega), hbw⟩
        · rw [if_neg h6]
          go_enter Tryd.func29, Tryd.ntmps29
          go_wp2_with (first
            | (go_at_call 39; refine (HN.out _).mono ?_; rintro e w2 ⟨rfl, hb2⟩; replace hb2 := bth hb1 hb2; obtain ⟨hbc, hbw⟩ := boxes1 hb2; have hc4 := hbc 4 _ rfl)
            | (go_at_call 25; refine (HA.out _ _ HRE.out).mono ?_; rintro e w1 ⟨y, hy, rfl, hb1⟩; replace hb1 := bth (bal (w.alloc (.cells #[.int .i64 fl, .int .i64 fu, .int .i64 tl, .int .i64 tu, .string t] 51)) (.cells #[.int .i64 fl, .int .i64 fu, .int .i64 tl, .int .i64 tu, .string t] 51)) hb1; obtain ⟨hbc1, hbw1⟩ := boxes1 hb1; have hc0a := hbc1 0 _ rfl; have hc1a := hbc1 1 _ rfl; have hc2a := hbc1 2 _ rfl; have hc3a := hbc1 3 _ rfl; have hc4a := hbc1 4 _ rfl; obtain rfl := HY.out y hy; clear hy))
          (try simp only [Exit.inBlock, Exit.then])
          go_ret2
          exact ⟨congrArg (fun z => Ending.returned (.tuple #[.int .i64 z, .int .i64 0])) (by simp), hbw⟩
  · rw [if_neg h1]
    have her : ((er : Int) == 0) = false := by
      rw [beq_eq_false_iff_ne]
      omega
    have HA := Lib.hid cA
    clear cA cN hM hp et hlen h1 hok hE
    go_enter Tryd.func29, Tryd.ntmps29
    go_wp2_with (first
      | (go_at_call 39; refine (HN.out _).mono ?_; rintro e w2 ⟨rfl, hb2⟩; replace hb2 := bth hb1 hb2; obtain ⟨hbc, hbw⟩ := boxes1 hb2; have hc4 := hbc 4 _ rfl)
      | (go_at_call 25; refine (HA.out _ _ HRE.out).mono ?_; rintro e w1 ⟨y, hy, rfl, hb1⟩; replace hb1 := bth (bal (w.alloc (.cells #[.int .i64 fl, .int .i64 fu, .int .i64 tl, .int .i64 tu, .string t] 51)) (.cells #[.int .i64 fl, .int .i64 fu, .int .i64 tl, .int .i64 tu, .string t] 51)) hb1; obtain ⟨hbc1, hbw1⟩ := boxes1 hb1; have hc0a := hbc1 0 _ rfl; have hc1a := hbc1 1 _ rfl; have hc2a := hbc1 2 _ rfl; have hc3a := hbc1 3 _ rfl; have hc4a := hbc1 4 _ rfl))
    (try simp only [Exit.inBlock, Exit.then])
    go_ret2
    exact ⟨rfl, hbw1⟩
end Go.Proofs.YtadkjeefiacdbaaDoor
