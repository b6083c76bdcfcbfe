/-
  THE WALKS of the statements EditsApply, EditsTell. Conditions: what Env says of the world; the arguments. bounds.
-/
import Derived.Test.YtadkjeefiacdbaaDoorEdL
set_option linter.unusedVariables false
set_option linter.unusedSimpArgs false
namespace Go.Proofs.YtadkjeefiacdbaaDoor
open Go.RowKit Go.Lib Go.Shelf

structure EdV.Wide (e : EdV) : Prop where
  fu : e.fu ≤ 9223372036854775807
  tu : e.tu ≤ 9223372036854775807
  t : e.t.size ≤ 140737488355328
theorem fits06_yes (s : ByteArray) (A : Option Addr) (c : Nat) (l : List EdV) (w : World) (hs : s.size ≤ 140737488355328) (hl : l.length ≤ 140737488355328) (hok : ∀ e ∈ l, e.Wide) (hr : RdE w A l) (h : FitsOk s l) :
    Calls Tryd.prog 22 #[.string s, .slice A l.length c] w (fun e w' => e = .returned (.bool true) ∧ w' = w) := by
  refine (fits06_any s A c l w hs hl (fun e he => (hok e he).t) hr).mono ?_
  rintro e w' ⟨b, rfl, hb, rfl⟩
  rw [hb.2 h]
  exact ⟨rfl, rfl⟩
theorem fits06_no (s : ByteArray) (A : Option Addr) (c : Nat) (l : List EdV) (w : World) (hs : s.size ≤ 140737488355328) (hl : l.length ≤ 140737488355328) (hok : ∀ e ∈ l, e.Wide) (hr : RdE w A l) (h : ¬ FitsOk s l) :
    Calls Tryd.prog 22 #[.string s, .slice A l.length c] w (fun e w' => e = .returned (.bool false) ∧ w' = w) := by
  refine (fits06_any s A c l w hs hl (fun e he => (hok e he).t) hr).mono ?_
  rintro e w' ⟨b, rfl, hb, rfl⟩
  cases b with
  | true => exact absurd (hb.1 rfl) h
  | false => exact ⟨rfl, rfl⟩
theorem fits_ok {s : ByteArray} {l : List EdV} (h : FitsOk s l) (hok : ∀ e ∈ l, e.Wide) : s.size ≤ 4194304 ∧ l.length ≤ 1048576 ∧ ∀ e ∈ l, e.Ok := by
  have h1 := h.1
  have h2 := h.2
  refine ⟨by omega, by omega, fun e he => ⟨(hok e he).fu, (hok e he).tu, ?_⟩⟩
  have := h.elem e he
  omega

set_option maxRecDepth 100000 in
set_option maxHeartbeats 1000000 in
theorem editsApply_any (s : ByteArray) (A : Option Addr) (c : Nat) (l : List EdV) (w : World) (hs : s.size ≤ 140737488355328) (hl : l.length ≤ 140737488355328) (hok : ∀ e ∈ l, e.Wide) (hr : RdE w A l) (hE : Env w) :
    Calls Tryd.prog 7 #[.string s, .slice A l.length c] w (BoolPost true w) := by
  have HL := Lib.hid fun w' he => alive06_any w' he
  have HE := Lib.hid hE
  by_cases h : FitsOk s l
  · have cF := fits06_yes s A c l w hs hl hok hr h
    obtain ⟨h1, h2, h3⟩ := fits_ok h hok
    have HA := Lib.hid fun w' (hb : Below w.heap.size w w') => edApply_any s A c l w' h1 h2 h3 (hr.below hb) (hE.below hb)
    have HB := Lib.hid fun w' (hb : Below w.heap.size w w') => refApply_any s A c l w' h1 h2 h3 (hr.below hb)
    have HF := Lib.hid cF
    generalize applyL s.data.toList (l.map EdV.l) = r at HA HB
    clear hE hok hr h cF h3
    go_enter Tryd.func7, Tryd.ntmps7
    go_wp2_with (first
      | (go_at_call 22; refine HF.out.mono ?_; rintro e w1 ⟨rfl, rfl⟩)
      | (go_at_call 24; refine (HA.out _ (Below.refl _ _)).mono ?_; rintro e w2 ⟨x, hx, rfl, hb2⟩)
      | (go_at_call 25; refine (HB.out _ hb2).mono ?_; rintro e w3 ⟨y, hy, rfl, hb3⟩; obtain rfl : y = x := data_inj (hy.trans hx.symm); clear hx hy; replace hb3 := bth hb2 hb3)
      | (go_at_call 23; refine (HL.out _ (HE.out.below hb3)).mono ?_; rintro e w4 ⟨rfl, hb4⟩; replace hb4 := bth hb3 hb4))
    go_ret
    exact ⟨rfl, hb4⟩
  · have cF := fits06_no s A c l w hs hl hok hr h
    have HF := Lib.hid cF
    clear hE hok hr h cF
    go_enter Tryd.func7, Tryd.ntmps7
    go_wp2_with (first
      | (go_at_call 22; refine HF.out.mono ?_; rintro e w1 ⟨rfl, rfl⟩)
      | (go_at_call 23; refine (HL.out _ HE.out).mono ?_; rintro e w4 ⟨rfl, hb4⟩))
    go_ret
    exact ⟨rfl, hb4⟩

set_option maxRecDepth 100000 in
set_option maxHeartbeats 1000000 in
theorem editsTell_any (a b : ByteArray) (fl fu tl tu : Int) (t : ByteArray) (x : Int) (w : World) (ha : a.size ≤ 140737488355328) (hb : b.size ≤ 140737488355328) (ht : t.size ≤ 140737488355328) (hfu : fu ≤ 9223372036854775807) (htu : tu ≤ 9223372036854775807) (hx : -9223372036854775808 ≤ x ∧ x ≤ 9223372036854775807) (hE : Env w) :
    Calls Tryd.prog 8 #[.string a, .string b, .agg #[.int .i64 fl, .int .i64 fu, .int .i64 tl, .int .i64 tu, .string t, .int .i64 x]] w (BoolPost true w) := by
  have HL := Lib.hid fun w' he => alive06_any w' he
  have HE := Lib.hid hE
  by_cases h1 : a.size ≤ 300
  · by_cases h2 : b.size ≤ 300
    · by_cases h3 : t.size ≤ 300
      · obtain ⟨v, k, cB, cR⟩ : ∃ (v : EdV) (k : Nat), (∀ w', Env w' → Calls Tryd.prog 26 #[.string a, .string b] w' (EdPost v k w')) ∧ (∀ w', Calls Tryd.prog 27 #[.string a, .string b] w' (EdPost v k w')) := by
          by_cases hv : validD a.data.toList = true ∧ validD b.data.toList = true
          · exact ⟨betV a b, 0, fun w' he => edBetween_ok a b w' (by omega) (by omega) hv.1 hv.2 he, fun w' => refBetween_ok a b w' (by omega) (by omega) hv.1 hv.2⟩
          · exact ⟨zeroV, 11, fun w' he => edBetween_not a b w' (by omega) (by omega) hv he, fun w' => refBetween_not a b w' (by omega) (by omega) hv⟩
        obtain ⟨p1, q1, p2, q2, tt⟩ := v
        have cB' : ∀ w', Env w' → Calls Tryd.prog 26 #[.string a, .string b] w' (fun e w'' => e = .returned (.tuple #[.agg #[.int .i64 p1, .int .i64 q1, .int .i64 p2, .int .i64 q2, .string tt], .int .i64 (k : Nat)]) ∧ Below w'.heap.size w' w'') := cB
        have cR' : ∀ w', Calls Tryd.prog 27 #[.string a, .string b] w' (fun e w'' => e = .returned (.tuple #[.agg #[.int .i64 p1, .int .i64 q1, .int .i64 p2, .int .i64 q2, .string tt], .int .i64 (k : Nat)]) ∧ Below w'.heap.size w' w'') := cR
        have cM := fun w' he => edMove_any a fl fu tl tu t x w' (by omega) (by omega) hfu htu hx he
        have cN := fun w' he => refMove_any a fl fu tl tu t x w' (by omega) (by omega) hfu htu hx he
        obtain ⟨⟨n, g⟩, hn⟩ : ∃ z, z = moveL a.data.toList ⟨fl, fu, tl, tu, t.data.toList⟩ x := ⟨_, rfl⟩
        rw [← hn] at cM cN
        have HB := Lib.hid cB'
        have HR := Lib.hid cR'
        have HM := Lib.hid cM
        have HN := Lib.hid cN
        have h1z : (a.size : Int) ≤ 300 := by omega
        have h2z : (b.size : Int) ≤ 300 := by omega
        have h3z : (t.size : Int) ≤ 300 := by omega
        clear cB cR cB' cR' cM cN hn hE
        go_enter Tryd.func8, Tryd.ntmps8
        go_wp2_with (first
          | (go_at_call 23; refine (HL.out _ (HE.out.below hw4)).mono ?_; rintro e w5 ⟨rfl, hb5⟩; obtain ⟨hf, _⟩ := boxes1 (bth (bth hq2 hb4) hb5); have f0 := hf 0 _ rfl; have f1 := hf 1 _ rfl; have f2 := hf 2 _ rfl; have f3 := hf 3 _ rfl; have f4 := hf 4 _ rfl; obtain ⟨hg, _⟩ := boxes1 (bth hq1 (bth (bth hq2' hb4) hb5)); have g0 := hg 0 _ rfl; have g1 := hg 1 _ rfl; have g2 := hg 2 _ rfl; have g3 := hg 3 _ rfl; have g4 := hg 4 _ rfl; have hw5 := bth hw4 hb5)
          | (go_at_call 29; refine (HN.out _ (HE.out.below hw3)).mono ?_; rintro e w4 ⟨rfl, hb4'⟩; have hb4 := bth hb3 hb4'; have hw4 := bth hw3 hb4'; clear hb4')
          | (go_at_call 28; refine (HM.out _ (HE.out.below hw2)).mono ?_; rintro e w3 ⟨rfl, hb3⟩; have hw3 := bth hw2 hb3; obtain ⟨hd, _⟩ := boxes1 (bth hq0' hb3); have d0 := hd 0 _ rfl; have d1 := hd 1 _ rfl; have d2 := hd 2 _ rfl; have d3 := hd 3 _ rfl; have d4 := hd 4 _ rfl; have d5 := hd 5 _ rfl)
          | (go_at_call 27; refine (HR.out _).mono ?_; rintro e w2 ⟨rfl, hb2⟩; have hq2 := Below.refl (w2.alloc (.cells #[.int .i64 p1, .int .i64 q1, .int .i64 p2, .int .i64 q2, .string tt] 51)).heap.size (w2.alloc (.cells #[.int .i64 p1, .int .i64 q1, .int .i64 p2, .int .i64 q2, .string tt] 51)); have hq2' := bth hb2 (bal w2 (.cells #[.int .i64 p1, .int .i64 q1, .int .i64 p2, .int .i64 q2, .string tt] 51)); have hq0' := bth hq0 (bth hq1' hq2'); have hw2 := bth (bal w _) hq0'; obtain ⟨hc, _⟩ := boxes1 hq0'; have c0 := hc 0 _ rfl; have c1 := hc 1 _ rfl; have c2 := hc 2 _ rfl; have c3 := hc 3 _ rfl; have c4 := hc 4 _ rfl; have c5 := hc 5 _ rfl)
          | (go_at_call 26; refine (HB.out _ (HE.out.below (bal w _))).mono ?_; rintro e w1 ⟨rfl, hb1⟩; have hq0 := hb1; have hq1' := bal w1 (.cells #[.int .i64 p1, .int .i64 q1, .int .i64 p2, .int .i64 q2, .string tt] 51); have hq1 := Below.refl (w1.alloc (.cells #[.int .i64 p1, .int .i64 q1, .int .i64 p2, .int .i64 q2, .string tt] 51)).heap.size (w1.alloc (.cells #[.int .i64 p1, .int .i64 q1, .int .i64 p2, .int .i64 q2, .string tt] 51))))
        go_ret
        exact ⟨rfl, hw5⟩
      · have h1z : (a.size : Int) ≤ 300 := by omega
        have h2z : (b.size : Int) ≤ 300 := by omega
        have h3z : (300 : Int) < (t.size : Int) := by omega
        clear hE
        go_enter Tryd.func8, Tryd.ntmps8
        go_wp2_with (go_at_call 23; refine (HL.out _ (HE.out.below (bal w _))).mono ?_; rintro e w5 ⟨rfl, hb5⟩; have hw5 := bth (bal w _) hb5)
        go_ret
        exact ⟨rfl, hw5⟩
    · have h1z : (a.size : Int) ≤ 300 := by omega
      have h2z : (300 : Int) < (b.size : Int) := by omega
      clear hE
      go_enter Tryd.func8, Tryd.ntmps8
      go_wp2_with (go_at_call 23; refine (HL.out _ (HE.out.below (bal w _))).mono ?_; rintro e w5 ⟨rfl, hb5⟩; have hw5 := bth (bal w _) hb5)
      go_ret
      exact ⟨rfl, hw5⟩
  · have h1z : (300 : Int) < (a.size : Int) := by omega
    clear hE
    go_enter Tryd.func8, Tryd.ntmps8
    go_wp2_with (go_at_call 23; refine (HL.out _ (HE.out.below (bal w _))).mono ?_; rintro e w5 ⟨rfl, hb5⟩; have hw5 := bth (bal w _) hb5)
    go_ret
    exact ⟨rfl, hw5⟩
end Go.Proofs.YtadkjeefiacdbaaDoor
