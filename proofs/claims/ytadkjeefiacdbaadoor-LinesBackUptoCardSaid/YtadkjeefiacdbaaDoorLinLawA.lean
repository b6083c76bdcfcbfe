/-
  THE WALKS of the statements LinesNil, LinesTell. Conditions: what Env says of the world; the text.s size.
-/
import Derived.Test.YtadkjeefiacdbaaDoorLinF
set_option linter.unusedVariables false
set_option linter.unusedSimpArgs false
namespace Go.Proofs.YtadkjeefiacdbaaDoor
open Go.RowKit Go.Lib Go.Shelf

set_option maxRecDepth 100000 in
set_option maxHeartbeats 1000000 in
theorem linesNil_any (p q x : Int) (w : World) (hE : Env w) : Calls Tryd.prog 6 #[.agg #[.int .i64 p, .int .i64 q], .int .i64 x] w (BoolPost true w) := by
  have c1 := fun w' => linLine_nil x w'
  have c2 := fun w' => linOffset_nil p q w'
  have c3 := fun w' => linPlace_nil x w'
  have c4 := fun w' => linLines_nil w'
  have cA := fun w' hE => alive05_any w' hE
  have H1 := Lib.hid c1
  have H2 := Lib.hid c2
  have H3 := Lib.hid c3
  have H4 := Lib.hid c4
  have HA := Lib.hid cA
  have HE := Lib.hid hE
  clear c1 c2 c3 c4 cA hE
  go_enter Tryd.func6, Tryd.ntmps6
  go_wp2_with (first
    | (go_at_call 17; refine (H1.out _).mono ?_; rintro e w1 ⟨rfl, hb1⟩; obtain ⟨hc0, hc1, hb1'⟩ := box2 hb1)
    | (go_at_call 18; refine (H2.out _).mono ?_; rintro e w2 ⟨rfl, hb2⟩; replace hb2 := bth hb1' hb2)
    | (go_at_call 20; refine (H3.out _).mono ?_; rintro e w3 ⟨rfl, hb3⟩; replace hb3 := bth hb2 hb3)
    | (go_at_call 12; refine (HA.out _ (HE.out.below (bth hb3 (bal w3 _)))).mono ?_; rintro e w4 ⟨rfl, hb4⟩; replace hb4 := bth (bth hb3 (bal w3 _)) hb4)
    | (go_at_call 16; refine (H4.out _).mono ?_; rintro e w5 ⟨rfl, hb5⟩; replace hb5 := bth hb4 hb5))
  go_ret
  exact ⟨rfl, hb5⟩

set_option maxRecDepth 100000 in
set_option maxHeartbeats 4000000 in
theorem linesTell_any (s : ByteArray) (p q x : Int) (w : World) (hq : q ≤ 9223372036854775807) (hx : -9223372036854775808 ≤ x ∧ x ≤ 9223372036854775807) (hE : Env w) (hs : s.size ≤ 140737488355328) :
    Calls Tryd.prog 3 #[.string s, .agg #[.int .i64 p, .int .i64 q], .int .i64 x] w (BoolPost true w) := by
  have cA := fun w' hE => alive05_any w' hE
  have HA := Lib.hid cA
  have HE := Lib.hid hE
  clear cA hE
  by_cases hlen : s.size ≤ 400
  · have cRR := fun w' => refRight_any s w' (by omega)
    have hlz : decide ((400 : Int) < (s.size : Int)) = false := decide_eq_false (by omega)
    cases hv : validD s.data.toList with
    | false =>
      rw [hv] at cRR
      have cN := fun w' hT => linNew_wrong s w' (by omega) (by rw [hv]; decide) hT
      have HR := Lib.hid cRR
      have HN := Lib.hid cN
      clear cRR cN hv
      go_enter Tryd.func3, Tryd.ntmps3
      go_wp2_with (first
        | (go_at_call 13; refine (HR.out _).mono ?_; rintro e w1 ⟨rfl, hb1⟩; replace hb1 := bth (bal w _) hb1)
        | (go_at_call 14; refine (HN.out _ (HE.out.below hb1).1).mono ?_; rintro e w2 ⟨rfl, hb2⟩; replace hb2 := bth hb1 hb2)
        | (go_at_call 12; refine (HA.out _ (HE.out.below hb2)).mono ?_; rintro e w4 ⟨rfl, hb4⟩; replace hb4 := bth hb2 hb4))
      go_ret
      exact ⟨rfl, hb4⟩
    | true =>
      rw [hv] at cRR
      have cN := fun w' hT => linNew_right s w' (by omega) hv hT
      have cS := fun w' => refSplit_any s w' (by omega)
      rw [linesB_length] at cS
      have cLs := fun b w' hx => linLines_any b s w' hx
      have cL := fun b n w' hx hE hn => linLine_right b s n w' (by omega) hx hE hn
      have cLw := fun b w' hx => linLine_wrong b s (nLines s.data.toList : Nat) w' hx (by omega)
      have cO := fun b w' hx hE => linOffset_any b s p q w' (by omega) hv hq hx hE
      have cO5 := fun w' => refOffset5_any s p q w' (by omega) hv
      have cP := fun b w' hx hE => linPlace_any b s x w' (by omega) hv hx hE
      have cP5 := fun w' => refPlace_any s x w' (by omega) hv hx
      obtain ⟨⟨oa, oe⟩, hoff⟩ : ∃ z, z = offP s.data.toList p q := ⟨_, rfl⟩
      obtain ⟨⟨pn, pu, pe⟩, hpl⟩ : ∃ z, z = placeP s.data.toList x := ⟨_, rfl⟩
      rw [← hoff] at cO cO5
      rw [← hpl] at cP cP5
      have hsp : ∀ (w' : World) (g : Nat), RdS w' (some ⟨g, 0, none⟩) (linesB s) → ∀ k, k < nLines s.data.toList → w'.cell? ⟨g, k, none⟩ = some (.string (lineB s k)) := fun _ _ h k hk => split_lines h k hk
      have hNL := nLines_le s (by omega)
      obtain ⟨N, hN⟩ : ∃ N, N = nLines s.data.toList := ⟨_, rfl⟩
      rw [← hN] at cS cLs cL cLw hsp hNL
      have HR := Lib.hid cRR
      have HN := Lib.hid cN
      have HS := Lib.hid cS
      have HLs := Lib.hid cLs
      have HL := Lib.hid cL
      have HLw := Lib.hid cLw
      have HO := Lib.hid cO
      have HO5 := Lib.hid cO5
      have HP := Lib.hid cP
      have HP5 := Lib.hid cP5
      have HSP := Lib.hid hsp
      clear cRR cN cS cLs cL cLw cO cO5 cP cP5 hsp hv hN hoff hpl
      go_enter Tryd.func3, Tryd.ntmps3
      go_wp2_with (first
        | (go_at_call 13; refine (HR.out _).mono ?_; rintro e w1 ⟨rfl, hb1⟩; have hb1' := bth (bal w _) hb1)
        | (go_at_call 14; refine (HN.out _ (HE.out.below hb1').1).mono ?_; rintro e w2 ⟨b, rfl, hx2, hge, hb2⟩; replace hb2 := bth hb1 hb2)
        | (go_at_call 15; refine (HS.out _).mono ?_; rintro e w3 ⟨g, c, rfl, hr3, hb3⟩; have hx3 := hx2.below hb3; replace hb3 := bth hb2 hb3)
        | (go_at_call 16; refine (HLs.out _ _ hx3).mono ?_; rintro e w4 ⟨rfl, hb4⟩; have hx4 := hx3.below hb4; have hr4 := hr3.below hb4; replace hb4 := bth hb3 hb4))
      have he4 := HE.out.below (bth (bal w _) hb4)
      obtain ⟨hd0, hd1, _⟩ := box2 hb4
      go_loopw [11] (fun a wr => ∃ i : Nat, a = .int .i64 i ∧ i ≤ N ∧ Below w4.heap.size w4 wr) (fun a _ => N - (RowKit.intOf a).toNat)
      case atStart => exact ⟨0, rfl, Nat.zero_le _, Below.refl _ _⟩
      case round =>
        obtain ⟨i, rfl, hi, hbr⟩ := hrel
        have hx5 := hx4.below hbr
        have he5 := he4.below hbr
        have hr5 := hr4.below hbr
        by_cases hin : i < N
        · have hiz : (i : Int) < (N : Int) := by omega
          go_wp2_with (first
            | (go_at_call 17; refine (HL.out _ _ _ hx5 he5 hin).mono ?_; rintro e w6 ⟨rfl, hb6⟩; have hcl := HSP.out _ _ (hr5.below hb6) i hin; have hse := str_eq (lineB s i) (lineB s i) rfl; replace hb6 := bth hbr hb6))
          go_roundw
          case rel => exact ⟨i + 1, by go_num, hin, hb6⟩
          case measure => simp [RowKit.intOf]; omega
        · have hie : i = N := by omega
          subst hie
          have hle : (i : Int) ≤ (i : Int) := Int.le_refl _
          replace hbr := bth hb4 hbr
          obtain ⟨hh0, hh1, _⟩ := box2 hbr
          go_wp2_with (first
            | (go_at_call 17; refine (HLw.out _ _ hx5).mono ?_; rintro e w6 ⟨rfl, hb6⟩; have hx6 := hx5.below hb6; have he6 := he5.below hb6; replace hb6 := bth hbr hb6; obtain ⟨hj0, hj1, _⟩ := box2 hb6)
            | (go_at_call 18; refine (HO.out _ _ hx6 he6).mono ?_; rintro e w7 ⟨rfl, hb7⟩; have hx7 := hx6.below hb7; have he7 := he6.below hb7; replace hb7 := bth hb6 hb7; obtain ⟨hk0, hk1, _⟩ := box2 hb7)
            | (go_at_call 19; refine (HO5.out _).mono ?_; rintro e w8 ⟨rfl, hb8⟩; have hx8 := hx7.below hb8; have he8 := he7.below hb8; replace hb8 := bth hb7 hb8; obtain ⟨hl0, hl1, _⟩ := box2 hb8)
            | (go_at_call 20; refine (HP.out _ _ hx8 he8).mono ?_; rintro e w9 ⟨rfl, hb9⟩; have he9 := (he8.below hb9).below (bal w9 (.cells #[.int .i64 (pn : Nat), .int .i64 (pu : Nat)] 23)); replace hb9 := bth hb8 hb9; obtain ⟨_, _, hb9'⟩ := box2 hb9)
            | (go_at_call 21; refine (HP5.out _).mono ?_; rintro e w10 ⟨rfl, hb10⟩; have he10 := (he9.below hb10).below (bal w10 (.cells #[.int .i64 (pn : Nat), .int .i64 (pu : Nat)] 23)))
            | (go_at_call 12; refine (HA.out _ he10).mono ?_; rintro e w11 ⟨rfl, hb11⟩; obtain ⟨hm0, hm1, hm2⟩ := box2 hb11; obtain ⟨hn0, hn1, hn2⟩ := box2 (bth hb10 hm2)))
          go_ret
          exact ⟨rfl, bth (bth (bth (bth hb9' (bal w9 _)) hb10) (bal w10 _)) hb11⟩
  · have hlz : (400 : Int) < (s.size : Int) := by omega
    go_enter Tryd.func3, Tryd.ntmps3
    go_wp2_with (first
      | (go_at_call 12; refine (HA.out _ (HE.out.below (bal w _))).mono ?_; rintro e w4 ⟨rfl, hb4⟩))
    go_ret
    exact ⟨rfl, bth (bal w _) hb4⟩
end Go.Proofs.YtadkjeefiacdbaaDoor
