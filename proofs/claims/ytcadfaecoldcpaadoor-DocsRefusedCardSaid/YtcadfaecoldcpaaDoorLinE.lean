/-
  THE WALKS of the document.s Offset, Place. Conditions: stated at each.
-/
import Derived.Test.YtcadfaecoldcpaaDoorLinD
import Derived.Deep.RegionHeld3
import Derived.Deep.DrawnRows
set_option linter.unusedVariables false
set_option linter.unusedSimpArgs false
namespace Go.Proofs.YtcadfaecoldcpaaDoor
open Go.RowKit Go.Lib Go.Shelf
attribute [local go_sem ↓] Go.wp_at_zero Go.wp_at_succ

theorem RdS.at0 {w : World} {g : Nat} {l : List ByteArray} (h : RdS w (some ⟨g, 0, none⟩) l) {k : Nat} (hk : k < l.length) : w.cell? ⟨g, k, none⟩ = some (.string (l.getD k ⟨#[]⟩)) := by
  obtain ⟨ad, hA, _, hc⟩ := h.cell hk
  injection hA with hA
  subst hA
  rw [add_lit, Nat.zero_add] at hc
  exact hc
theorem split_lines {w : World} {g : Nat} {s : ByteArray} (h : RdS w (some ⟨g, 0, none⟩) (linesB s)) (k : Nat) (hk : k < nLines s.data.toList) : w.cell? ⟨g, k, none⟩ = some (.string (lineB s k)) := by
  rw [← linesB_get s k hk]
  exact h.at0 (by rw [linesB_length]; exact hk)
theorem nLines_le (s : ByteArray) (hs : s.size ≤ 16777216) : nLines s.data.toList ≤ 16777217 := by
  have := starts_le s.data.toList
  rw [starts_length, ← size_eq] at this
  unfold nLines
  omega

set_option maxRecDepth 100000 in
set_option maxHeartbeats 1000000 in
theorem refOffset5_any (s : ByteArray) (p q : Int) (w : World) (hs : s.size ≤ 16777216) (hv : validD s.data.toList = true) :
    Calls Tryd.prog 51 #[.string s, .agg #[.int .i64 p, .int .i64 q]] w (Post2 (offP s.data.toList p q) w) := by
  have cS : ∀ w', _ := fun w' => refSplit_any s w' hs
  have hNL := nLines_le s hs
  rw [linesB_length] at cS
  have hsl : ∀ (w' : World) (g : Nat), RdS w' (some ⟨g, 0, none⟩) (linesB s) → ∀ k, k < nLines s.data.toList → w'.cell? ⟨g, k, none⟩ = some (.string (lineB s k)) := fun _ _ h k hk => split_lines h k hk
  by_cases hp : 0 ≤ p ∧ p < (nLines s.data.toList : Nat)
  · obtain ⟨n, rfl⟩ : ∃ n : Nat, p = n := ⟨p.toNat, by omega⟩
    have hn : n < nLines s.data.toList := by omega
    have hsz := line_size s n hn
    have cO : ∀ w', _ := fun w' => refOffset_any (lineB s n) q w' (by omega)
    have hstart : ∀ i, i < nLines s.data.toList → startN s.data.toList i + (lineB s i).size ≤ s.size := fun i hi => line_size s i hi
    have hnext : ∀ i, i < n → startN s.data.toList (i + 1) = startN s.data.toList i + (lineB s i).size + 1 := fun i hi => by
      rw [startN_next _ (by omega), size_eq, lineB_data]
    obtain ⟨N, hNN⟩ : ∃ N, N = nLines s.data.toList := ⟨_, rfl⟩
    rw [← hNN] at cS hNL hn
    have hn0 : decide ((n : Int) < 0) = false := decide_eq_false (by omega)
    have hnN : decide (N ≤ n) = false := decide_eq_false (by omega)
    have hnz : (n : Int) < (N : Int) := by omega
    obtain ⟨pr, hpr⟩ : ∃ pr, pr = offP s.data.toList n q := ⟨_, rfl⟩
    have hcase : (∃ k, offRes (lineB s n).data.toList q = (k, 0) ∧ pr = (startN s.data.toList n + k, 0) ∧ k ≤ (lineB s n).size) ∨ (offRes (lineB s n).data.toList q = (0, 12) ∧ pr = (0, 51)) := by
      subst hpr
      unfold offRes offP
      rw [lineB_data, if_pos (line_right _ hv n (by omega)), if_pos hp, Int.toNat_natCast]
      cases ho : offL (lineN s.data.toList n) q with
      | none => exact .inr ⟨rfl, rfl⟩
      | some k =>
        refine .inl ⟨k, rfl, rfl, ?_⟩
        obtain ⟨_, h1⟩ := off_back _ (line_right _ hv n (by omega)) q k ho
        have := h1.2.1
        rw [size_eq, lineB_data]
        omega
    rw [← hpr]
    have HN := Lib.hid hNN
    have HS := Lib.hid hsl
    have HA := Lib.hid hstart
    have HX := Lib.hid hnext
    have HO := Lib.hid cO
    have HC := Lib.hid hcase
    have HCS := Lib.hid cS
    clear hNN hsl hstart hnext cO hcase cS hpr hp hv hsz
    go_enter Tryd.func51, Tryd.ntmps51
    go_wp2_with (first
      | (go_at_call 66; refine (HCS.out _).mono ?_; rintro e w1 ⟨g, c, rfl, hr, hb1⟩; obtain ⟨hc0, hc1, hb1'⟩ := box2 hb1))
    have HR := Lib.hid hr
    clear hr
    go_loop [7, 8] (fun a b => ∃ i : Nat, i ≤ n ∧ a = .int .i64 (startN s.data.toList i : Nat) ∧ b = .int .i64 i) (fun _ b => n - (RowKit.intOf b).toNat)
    case atStart => exact ⟨0, Nat.zero_le _, rfl, rfl⟩
    case round =>
      obtain ⟨i, hi, rfl, rfl⟩ := hrel
      by_cases hin : i < n
      · have hiz : (i : Int) < (n : Int) := by omega
        have hiN : (i : Int) < (N : Int) := by omega
        have hcl := HS.out _ _ HR.out i (by rw [← HN.out]; omega)
        have hx := HX.out i hin
        have ha := HA.out i (by rw [← HN.out]; omega)
        obtain ⟨st, hst⟩ : ∃ st, st = startN s.data.toList i := ⟨_, rfl⟩
        rw [← hst] at hx ha ⊢
        have HXX := Lib.hid hx
        clear hx
        go_wp2
        go_round
        case rel => exact ⟨i + 1, hin, by rw [HXX.out]; go_num, by go_num⟩
        case measure => simp [RowKit.intOf]; omega
      · have hie : i = n := by omega
        subst hie
        have hcl := HS.out _ _ HR.out i (by rw [← HN.out]; exact hn)
        have ha := HA.out i (by rw [← HN.out]; exact hn)
        have hle : (i : Int) ≤ (i : Int) := Int.le_refl _
        obtain ⟨st, hst⟩ : ∃ st, st = startN s.data.toList i := ⟨_, rfl⟩
        rw [← hst] at ha ⊢
        have HST := Lib.hid hst
        clear hst
        rcases HC.out with ⟨k, ho, hpr, hk⟩ | ⟨ho, hpr⟩
        · have cO' : ∀ w', Calls Tryd.prog 67 #[.string (lineB s i), .int .i64 q] w' (Lit2 (k : Nat) (0 : Nat) w') := fun w' => (HO.out w').mono (post2_lit ho)
          have HO' := Lib.hid cO'
          have HPR := Lib.hid hpr
          clear cO' ho hpr
          go_wp2_with fail
          go_region_held3 (fun w' => w'.cell? ⟨w.heap.size, 0, none⟩ = some (.int .i64 (i : Nat)) ∧ w'.cell? ⟨w.heap.size, 1, none⟩ = some (.int .i64 q) ∧ w'.cell? ⟨g, i, none⟩ = some (.string (lineB s i))) (first | exact ⟨hc0, hc1, hcl⟩ | exact ⟨hd0, hd1, hd2⟩) (first | (go_at_call 67; refine (HO'.out _).mono ?_; rintro e w2 ⟨rfl, hb2⟩; replace hb2 := bdr hb2; obtain ⟨hd0, hd1, hb2'⟩ := box2 (bth hb1 hb2); have hd2 := HS.out _ _ (HR.out.below hb2) i (by rw [← HN.out]; exact hn)))
          go_wp2
          go_ret2
          exact ⟨ret_p2 (by rw [HPR.out, ← HST.out]; exact Prod.ext (by simp only; omega) rfl) (by omega) (by omega), hb2'⟩
        · have cO' : ∀ w', Calls Tryd.prog 67 #[.string (lineB s i), .int .i64 q] w' (Lit2 (0 : Nat) (12 : Nat) w') := fun w' => (HO.out w').mono (post2_lit ho)
          have HO' := Lib.hid cO'
          have HPR := Lib.hid hpr
          clear cO' ho hpr
          go_wp2_with fail
          go_region_held3 (fun w' => w'.cell? ⟨w.heap.size, 0, none⟩ = some (.int .i64 (i : Nat)) ∧ w'.cell? ⟨w.heap.size, 1, none⟩ = some (.int .i64 q) ∧ w'.cell? ⟨g, i, none⟩ = some (.string (lineB s i))) (first | exact ⟨hc0, hc1, hcl⟩ | exact ⟨hd0, hd1, hd2⟩) (first | (go_at_call 67; refine (HO'.out _).mono ?_; rintro e w2 ⟨rfl, hb2⟩; replace hb2 := bdr hb2; obtain ⟨hd0, hd1, hb2'⟩ := box2 (bth hb1 hb2); have hd2 := HS.out _ _ (HR.out.below hb2) i (by rw [← HN.out]; exact hn)))
          go_wp2
          go_ret2
          exact ⟨ret_p2 (by rw [HPR.out]; rfl) (by omega) (by omega), hb2'⟩
  · have hpr : offP s.data.toList p q = (0, 51) := by
      unfold offP
      rw [if_neg hp]
    rw [hpr]
    obtain ⟨N, hNN⟩ : ∃ N, N = nLines s.data.toList := ⟨_, rfl⟩
    rw [← hNN] at cS hNL hp
    have HCS := Lib.hid cS
    clear hsl hv hpr hNN cS
    by_cases hneg : p < 0
    · clear hp
      go_enter Tryd.func51, Tryd.ntmps51
      go_wp2_with (first
        | (go_at_call 66; refine (HCS.out _).mono ?_; rintro e w1 ⟨g, c, rfl, hr, hb1⟩; obtain ⟨hc0, hc1, hb1'⟩ := box2 hb1))
      go_ret2
      exact ⟨rfl, hb1'⟩
    · have hge : (N : Int) ≤ p := by omega
      have hneg' : decide (p < 0) = false := decide_eq_false hneg
      clear hp hneg
      go_enter Tryd.func51, Tryd.ntmps51
      go_wp2_with (first
        | (go_at_call 66; refine (HCS.out _).mono ?_; rintro e w1 ⟨g, c, rfl, hr, hb1⟩; obtain ⟨hc0, hc1, hb1'⟩ := box2 hb1))
      go_ret2
      exact ⟨rfl, hb1'⟩

/-! ### Place, by definition -/
/-- Where the next line begins: behind the last one, behind the end and one more. -/
def stA (s : ByteArray) (i : Nat) : Nat := if i < nLines s.data.toList then startN s.data.toList i else s.size + 1
theorem stA_next (s : ByteArray) (i : Nat) (hi : i < nLines s.data.toList) : stA s (i + 1) = startN s.data.toList i + (lineB s i).size + 1 := by
  unfold stA
  rw [size_eq (lineB s i), lineB_data]
  by_cases h : i + 1 < nLines s.data.toList
  · rw [if_pos h, startN_next _ h]
  · rw [if_neg h, size_eq, startN_last s.data.toList (n := i) (by omega)]
/-- What Place has found out when it comes to line i. -/
def PastL (s : ByteArray) (x : Int) (i : Nat) : Prop := x < 0 ∨ (stA s i : Int) ≤ x
theorem pastL_zero (s : ByteArray) (x : Int) : PastL s x 0 := by
  unfold PastL stA
  rw [if_pos (nLines_pos _), startN_zero]
  omega
theorem pastL_next {s : ByteArray} {x : Int} {i : Nat} (h : PastL s x i) (hi : i < nLines s.data.toList) (hn : ¬ ((startN s.data.toList i : Int) ≤ x ∧ x ≤ startN s.data.toList i + (lineB s i).size)) : PastL s x (i + 1) := by
  unfold PastL at h ⊢
  rw [stA_next s i hi]
  rw [show stA s i = startN s.data.toList i from if_pos hi] at h
  omega
theorem pastL_end {s : ByteArray} {x : Int} {i : Nat} (h : PastL s x i) (hi : nLines s.data.toList ≤ i) : placeP s.data.toList x = (0, 0, 51) := by
  unfold PastL at h
  rw [show stA s i = s.size + 1 from if_neg (by omega)] at h
  exact placeP_off (by rw [← size_eq]; omega)
theorem onLine_of {s : ByteArray} {x : Int} {i : Nat} (hi : i < nLines s.data.toList) (h : (startN s.data.toList i : Int) ≤ x ∧ x ≤ startN s.data.toList i + (lineB s i).size) : OnLine s.data.toList x.toNat i ∧ x.toNat ≤ s.data.toList.length ∧ x = (x.toNat : Nat) := by
  have h1 := line_size s i hi
  rw [size_eq s] at h1
  have h2 : (lineB s i).size = (lineN s.data.toList i).length := by rw [size_eq, lineB_data]
  exact ⟨⟨hi, by omega, by omega⟩, by omega, by omega⟩

end Go.Proofs.YtcadfaecoldcpaaDoor
