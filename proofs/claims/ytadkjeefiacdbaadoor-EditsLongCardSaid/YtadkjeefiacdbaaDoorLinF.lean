/-
  THE WALK of layer 5.s alive. Conditions: what Env says of the world.
-/
import Derived.Test.YtadkjeefiacdbaaDoorLinE
set_option linter.unusedVariables false
set_option linter.unusedSimpArgs false
namespace Go.Proofs.YtadkjeefiacdbaaDoor
open Go.RowKit Go.Lib Go.Shelf

def liveB : ByteArray := ⟨#[97, 98, 10, 240, 159, 152, 128, 99, 10]⟩
set_option maxRecDepth 100000 in
theorem live_right : validD liveB.data.toList = true := by decide
set_option maxRecDepth 100000 in
theorem live_off1 : offP liveB.data.toList 1 2 = (7, 0) := by decide
set_option maxRecDepth 100000 in
theorem live_off2 : offP liveB.data.toList 1 1 = (0, 51) := by decide
set_option maxRecDepth 100000 in
theorem live_lines : nLines liveB.data.toList = 3 := by decide
set_option maxRecDepth 100000 in
theorem live_line : lineB liveB 0 = ⟨#[97, 98]⟩ := by
  unfold lineB
  rw [show lineN liveB.data.toList 0 = [97, 98] by decide]
set_option maxRecDepth 100000 in
theorem live_place : placeP liveB.data.toList 8 = (1, 3, 0) := by
  have h : OnLine liveB.data.toList 8 1 := ⟨by decide, by decide, by decide⟩
  have := placeP_on h (by decide)
  rw [show ((8 : Nat) : Int) = 8 from rfl] at this
  rw [this, show unitAt (lineN liveB.data.toList 1) ((8 - startN liveB.data.toList 1 : Nat) : Int) = some 3 by decide]

set_option maxRecDepth 100000 in
set_option maxHeartbeats 1000000 in
theorem alive05_any (w : World) (hE : Env w) : Calls Tryd.prog 12 #[] w (BoolPost true w) := by
  have cN : Calls Tryd.prog 14 #[.string ⟨#[97, 98, 10, 240, 159, 152, 128, 99, 10]⟩] w (fun e w' => ∃ b, e = .returned (.tuple #[.pointer (some ⟨b, 0, none⟩), .int .i64 0]) ∧ Ix w' b liveB ∧ w.heap.size ≤ b ∧ Below w.heap.size w w') := linNew_right liveB w (by decide) live_right hE.1
  have cO1 : ∀ b w', Ix w' b liveB → Env w' → Calls Tryd.prog 18 #[.pointer (some ⟨b, 0, none⟩), .agg #[.int .i64 1, .int .i64 2]] w' (Lit2 7 0 w') := fun b w' hx he => (linOffset_any b liveB 1 2 w' (by decide) live_right (by decide) hx he).mono (post2_lit live_off1)
  have cO2 : ∀ b w', Ix w' b liveB → Env w' → Calls Tryd.prog 18 #[.pointer (some ⟨b, 0, none⟩), .agg #[.int .i64 1, .int .i64 1]] w' (Lit2 0 51 w') := fun b w' hx he => (linOffset_any b liveB 1 1 w' (by decide) live_right (by decide) hx he).mono (post2_lit live_off2)
  have cP : ∀ b w', Ix w' b liveB → Env w' → Calls Tryd.prog 20 #[.pointer (some ⟨b, 0, none⟩), .int .i64 8] w' (PlcPost (1, 3, 0) w') := fun b w' hx he => by
    have := linPlace_any b liveB 8 w' (by decide) live_right hx he
    rw [live_place] at this
    exact this
  have cL : ∀ b w', Ix w' b liveB → Env w' → Calls Tryd.prog 17 #[.pointer (some ⟨b, 0, none⟩), .int .i64 0] w' (fun e w'' => e = .returned (.tuple #[.string ⟨#[97, 98]⟩, .int .i64 0]) ∧ Below w'.heap.size w' w'') := fun b w' hx he => by
    have := linLine_right b liveB 0 w' (by decide) hx he (by rw [live_lines]; decide)
    rw [live_line] at this
    exact this
  have cC : ∀ b w', Ix w' b liveB → Calls Tryd.prog 16 #[.pointer (some ⟨b, 0, none⟩)] w' (fun e w'' => e = .returned (.int .i64 3) ∧ Below w'.heap.size w' w'') := fun b w' hx => by
    have := linLines_any b liveB w' hx
    rw [live_lines] at this
    exact this
  have H1 := Lib.hid cO1
  have H2 := Lib.hid cO2
  have H3 := Lib.hid cP
  have H4 := Lib.hid cL
  have H5 := Lib.hid cC
  have HE := Lib.hid hE
  clear cO1 cO2 cP cL cC hE
  go_enter Tryd.func12, Tryd.ntmps12
  go_wp2_with (first
    | (go_at_call 14; refine cN.mono ?_; rintro e w1 ⟨b, rfl, hx1, hge, hb1⟩; have he1 := HE.out.below hb1)
    | (go_at_call 18; (with_reducible refine (H2.out _ _ hx3 he3).mono ?_); rintro e w4 ⟨rfl, hb4⟩; have hx4 := hx3.below hb4; have he4 := he3.below hb4; have hq4 := bth (bal w3 _) hb4; obtain ⟨hk0, hk1, _⟩ := box2 hb4)
    | (go_at_call 18; (with_reducible refine (H1.out _ _ hx1 he1).mono ?_); rintro e w2 ⟨rfl, hb2⟩; have hx2 := hx1.below hb2; have he2 := he1.below hb2; replace hb2 := bth hb1 hb2)
    | (go_at_call 20; refine (H3.out _ _ hx2 he2).mono ?_; rintro e w3 ⟨rfl, hb3⟩; have hx3 := (hx2.below hb3).below (bal w3 (.cells #[.int .i64 1, .int .i64 3] 23)); have he3 := (he2.below hb3).below (bal w3 (.cells #[.int .i64 1, .int .i64 3] 23)); replace hb3 := bth hb2 hb3)
    | (go_at_call 17; refine (H4.out _ _ hx4 he4).mono ?_; rintro e w5 ⟨rfl, hb5⟩; have hx5 := hx4.below hb5; have hq5 := bth hb4 hb5; obtain ⟨hl0, hl1, _⟩ := box2 hq5)
    | (go_at_call 16; refine (H5.out _ _ hx5).mono ?_; rintro e w6 ⟨rfl, hb6⟩; have hq6 := bth hq5 hb6; obtain ⟨hm0, hm1, hq7⟩ := box2 hq6))
  go_ret
  exact ⟨rfl, hb3.trans ((bth (bal w3 _) hq6).mono hb3.size)⟩
end Go.Proofs.YtadkjeefiacdbaaDoor
