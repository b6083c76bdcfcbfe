/-
  THE WALKS of Move, the program's and the document's. Conditions: stated at each.
-/
import Derived.Test.YtadkjeefiacdbaaDoorEdG
set_option linter.unusedVariables false
set_option linter.unusedSimpArgs false
namespace Go.Proofs.YtadkjeefiacdbaaDoor
open Go.RowKit Go.Lib Go.Shelf

set_option maxRecDepth 100000 in
set_option maxHeartbeats 1000000 in
theorem edMove_any (s : ByteArray) (fl fu tl tu : Int) (t : ByteArray) (x : Int) (w : World) (hs : s.size ≤ 4194304) (ht : t.size ≤ 4194304) (hfu : fu ≤ 9223372036854775807) (htu : tu ≤ 9223372036854775807) (hx : -9223372036854775808 ≤ x ∧ x ≤ 9223372036854775807) (hE : Env w) :
    Calls Tryd.prog 28 #[.string s, .agg #[.int .i64 fl, .int .i64 fu, .int .i64 tl, .int .i64 tu, .string t], .int .i64 x] w (Post2 (moveL s.data.toList ⟨fl, fu, tl, tu, t.data.toList⟩ x) w) := by
  obtain ⟨e, he⟩ : ∃ e : EdL, e = ⟨fl, fu, tl, tu, t.data.toList⟩ := ⟨_, rfl⟩
  have et : e.t.length = t.size := by rw [he, size_eq]
  rw [← he]
  obtain ⟨⟨a, c, er⟩, hp⟩ : ∃ z, z = (edOne s.data.toList e).2 := ⟨_, rfl⟩
  have hlen : s.data.toList.length = s.size := (size_eq s).symm
  have hM : moveL s.data.toList e x = if er = 0 then (if x < 0 ∨ (s.size : Int) < x then (0, 51) else if x ≤ (a : Nat) then (x.toNat, 0) else if (c : Nat) ≤ x then ((edOne s.data.toList e).1.length + x.toNat - s.size, 0) else (a + t.size, 0)) else (0, er) := by
    unfold moveL
    rw [← hp, hlen, et]
  rw [hM]
  have cO : ∀ w', Env w' → Calls Tryd.prog 38 #[.string s, .agg #[.int .i64 fl, .int .i64 fu, .int .i64 tl, .int .i64 tu, .string t]] w' (OnePost (edB s e) (a, c, er) w') := fun w' hE => by
    rw [hp, he]
    exact edOne_any s fl fu tl tu t w' hs ht hfu htu hE
  have HO := Lib.hid cO
  have HE := Lib.hid hE
  by_cases h1 : er = 0
  · rw [if_pos h1]
    subst h1
    have hE0 : (edOne s.data.toList e).2.2.2 = 0 := by rw [← hp]
    obtain ⟨hf0, hf1, _⟩ := edOne_ok hE0
    obtain ⟨hv, hvt, hoa, hoc, hac⟩ := edFind_ok hf0
    have hcl := edFind_le hf0
    have htl := edText_length s.data.toList e.t _ _ hac hcl
    have hL : (edOne s.data.toList e).1.length + (c - a) = s.size + t.size ∧ a ≤ c ∧ c ≤ s.size := by
      rw [hf1] at hp
      simp only [Prod.mk.injEq] at hp
      obtain ⟨rfl, rfl, _⟩ := hp
      rw [hf1, ← hlen, ← et]
      exact ⟨htl, hac, hcl⟩
    obtain ⟨hL1, hL2, hL3⟩ := hL
    rw [← edB_data, ← size_eq] at hL1 ⊢
    obtain ⟨nx, hnx⟩ : ∃ nx, nx = edB s e := ⟨_, rfl⟩
    rw [← hnx] at hL1 ⊢
    rw [← hnx] at HO
    clear cO hE hM hE0 hf0 hf1 hv hvt hoa hoc hac hcl htl hp he et hlen hnx
    have hnz : nx.size ≤ 8388608 := by omega
    by_cases h2 : x < 0 ∨ (s.size : Int) < x
    · rw [if_pos h2]
      by_cases h3 : x < 0
      · clear h2
        go_enter Tryd.func28, Tryd.ntmps28
        go_wp2_with (go_at_call 38; refine (HO.out _ (HE.out.below (bal w _))).mono ?_; rintro e w1 ⟨rfl, hb1⟩; have hb2 := bth hb1 (bal w1 (.cells #[.int .i64 (a : Nat), .int .i64 (c : Nat)] 73)); obtain ⟨hbc, hbw⟩ := boxes1 hb2; have hc4 := hbc 4 _ rfl; have hm := heap_alloc_new w1 (.cells #[.int .i64 (a : Nat), .int .i64 (c : Nat)] 73); obtain ⟨hm0, hm1, _, _⟩ := two_cf hm; clear hm hbc)
        (try simp only [Exit.inBlock, Exit.then])
        go_ret2
        exact ⟨rfl, hbw⟩
      · have h4 : (s.size : Int) < x := by omega
        have h3' : decide (x < 0) = false := decide_eq_false h3
        clear h2
        go_enter Tryd.func28, Tryd.ntmps28
        go_wp2_with (go_at_call 38; refine (HO.out _ (HE.out.below (bal w _))).mono ?_; rintro e w1 ⟨rfl, hb1⟩; have hb2 := bth hb1 (bal w1 (.cells #[.int .i64 (a : Nat), .int .i64 (c : Nat)] 73)); obtain ⟨hbc, hbw⟩ := boxes1 hb2; have hc4 := hbc 4 _ rfl; have hm := heap_alloc_new w1 (.cells #[.int .i64 (a : Nat), .int .i64 (c : Nat)] 73); obtain ⟨hm0, hm1, _, _⟩ := two_cf hm; clear hm hbc)
        (try simp only [Exit.inBlock, Exit.then])
        go_ret2
        exact ⟨rfl, hbw⟩
    · rw [if_neg h2]
      have h3 : 0 ≤ x := by omega
      have h4 : x ≤ (s.size : Int) := by omega
      have h3' : decide (x < 0) = false := decide_eq_false (by omega)
      have h4' : decide ((s.size : Int) < x) = false := decide_eq_false (by omega)
      obtain ⟨k, rfl⟩ : ∃ k : Nat, x = k := ⟨x.toNat, by omega⟩
      clear h2
      by_cases h5 : (k : Int) ≤ (a : Nat)
      · rw [if_pos h5]
        go_enter Tryd.func28, Tryd.ntmps28
        go_wp2_with (go_at_call 38; refine (HO.out _ (HE.out.below (bal w _))).mono ?_; rintro e w1 ⟨rfl, hb1⟩; have hb2 := bth hb1 (bal w1 (.cells #[.int .i64 (a : Nat), .int .i64 (c : Nat)] 73)); obtain ⟨hbc, hbw⟩ := boxes1 hb2; have hc4 := hbc 4 _ rfl; have hm := heap_alloc_new w1 (.cells #[.int .i64 (a : Nat), .int .i64 (c : Nat)] 73); obtain ⟨hm0, hm1, _, _⟩ := two_cf hm; clear hm hbc)
        (try simp only [Exit.inBlock, Exit.then])
        go_ret2
        exact ⟨rfl, hbw⟩
      · rw [if_neg h5]
        by_cases h6 : ((c : Nat) : Int) ≤ (k : Int)
        · rw [if_pos h6]
          go_enter Tryd.func28, Tryd.ntmps28
          go_wp2_with (go_at_call 38; refine (HO.out _ (HE.out.below (bal w _))).mono ?_; rintro e w1 ⟨rfl, hb1⟩; have hb2 := bth hb1 (bal w1 (.cells #[.int .i64 (a : Nat), .int .i64 (c : Nat)] 73)); obtain ⟨hbc, hbw⟩ := boxes1 hb2; have hc4 := hbc 4 _ rfl; have hm := heap_alloc_new w1 (.cells #[.int .i64 (a : Nat), .int .i64 (c : Nat)] 73); obtain ⟨hm0, hm1, _, _⟩ := two_cf hm; clear hm hbc)
          (try simp only [Exit.inBlock, Exit.then])
          go_ret2
          exact ⟨by rw [Int.toNat_natCast]; exact congrArg (fun z => Ending.returned (.tuple #[.int .i64 z, .int .i64 0])) (by simp; omega), hbw⟩
        · rw [if_neg h6]
          go_enter Tryd.func28, Tryd.ntmps28
          go_wp2_with (go_at_call 38; refine (HO.out _ (HE.out.below (bal w _))).mono ?_; rintro e w1 ⟨rfl, hb1⟩; have hb2 := bth hb1 (bal w1 (.cells #[.int .i64 (a : Nat), .int .i64 (c : Nat)] 73)); obtain ⟨hbc, hbw⟩ := boxes1 hb2; have hc4 := hbc 4 _ rfl; have hm := heap_alloc_new w1 (.cells #[.int .i64 (a : Nat), .int .i64 (c : Nat)] 73); obtain ⟨hm0, hm1, _, _⟩ := two_cf hm; clear hm hbc)
          (try simp only [Exit.inBlock, Exit.then])
          go_ret2
          exact ⟨congrArg (fun z => Ending.returned (.tuple #[.int .i64 z, .int .i64 0])) (by simp), hbw⟩
  · rw [if_neg h1]
    have her : ((er : Int) == 0) = false := by
      rw [beq_eq_false_iff_ne]
      omega
    generalize edB s e = nx at HO
    clear cO hE hM hp he et hlen h1
    go_enter Tryd.func28, Tryd.ntmps28
    go_wp2_with (go_at_call 38; refine (HO.out _ (HE.out.below (bal w _))).mono ?_; rintro e w1 ⟨rfl, hb1⟩; have hb2 := bth hb1 (bal w1 (.cells #[.int .i64 (a : Nat), .int .i64 (c : Nat)] 73)); obtain ⟨hbc, hbw⟩ := boxes1 hb2; have hc4 := hbc 4 _ rfl; have hm := heap_alloc_new w1 (.cells #[.int .i64 (a : Nat), .int .i64 (c : Nat)] 73); obtain ⟨hm0, hm1, _, _⟩ := two_cf hm; clear hm hbc)
    (try simp only [Exit.inBlock, Exit.then])
    go_ret2
    exact ⟨rfl, hbw⟩
end Go.Proofs.YtadkjeefiacdbaaDoor
