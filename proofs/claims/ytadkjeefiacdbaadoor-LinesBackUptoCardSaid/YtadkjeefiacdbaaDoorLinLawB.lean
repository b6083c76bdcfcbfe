/-
  THE WALK of the statement LinesBack. Conditions: what Env says of the world; the text.s size.
-/
import Derived.Test.YtadkjeefiacdbaaDoorLinLawA
set_option linter.unusedVariables false
set_option linter.unusedSimpArgs false
namespace Go.Proofs.YtadkjeefiacdbaaDoor
open Go.RowKit Go.Lib Go.Shelf

theorem placeP_err (l : List UInt8) (x : Int) : (placeP l x).2.2 = 0 ∨ (placeP l x).2.2 = 51 := by
  unfold placeP
  split
  · split
    · exact .inl rfl
    · exact .inr rfl
  · exact .inr rfl
theorem placeP_unit (l : List UInt8) (x : Int) (n u : Nat) (h : placeP l x = (n, u, 0)) : u ≤ l.length := by
  unfold placeP at h
  split at h
  · rename_i hx
    obtain ⟨m, hm⟩ := onLine_ex l x.toNat (by omega)
    rw [lineIx_eq hm] at h
    split at h
    · rename_i v hv
      simp only [Prod.mk.injEq, and_true] at h
      obtain ⟨_, _, _, h4⟩ := unit_back _ _ _ hv
      have h5 := unitsL_le (lineN l m)
      have h6 := (lineN_at l hm.lt).2
      omega
    · simp at h
  · simp at h
theorem less_eq {n m u v x y : Nat} (h : (n < m ∨ n = m ∧ u < v) ↔ x < y) : (decide (n < m) || (decide (n = m) && decide (u < v))) = decide (x < y) := by
  rw [Bool.eq_iff_iff]
  simp only [Bool.or_eq_true, Bool.and_eq_true, decide_eq_true_eq]
  exact h

set_option maxRecDepth 100000 in
set_option maxHeartbeats 4000000 in
theorem linesBack_any (s : ByteArray) (x y : Int) (w : World) (hE : Env w) (hs : s.size ≤ 16777216) :
    Calls Tryd.prog 4 #[.string s, .agg #[.int .i64 x, .int .i64 y]] w (BoolPost true w) := by
  have cA := fun w' hE => alive05_any w' hE
  have HA := Lib.hid cA
  have HE := Lib.hid hE
  clear cA hE
  by_cases hv : validD s.data.toList = true
  · have cN := fun w' hT => linNew_right s w' hs hv hT
    have HN := Lib.hid cN
    clear cN
    by_cases hlen : s.size ≤ 400
    · have hlz : decide ((400 : Int) < (s.size : Int)) = false := decide_eq_false (by omega)
      have cP := fun b z w' hx hE => linPlace_any b s z w' hs hv hx hE
      have HP := Lib.hid cP
      obtain ⟨⟨n, u, pe⟩, hp⟩ : ∃ z, z = placeP s.data.toList x := ⟨_, rfl⟩
      obtain ⟨⟨m, v, qe⟩, hq⟩ : ∃ z, z = placeP s.data.toList y := ⟨_, rfl⟩
      have cPx : ∀ b w', Ix w' b s → Env w' → Calls Tryd.prog 20 #[.pointer (some ⟨b, 0, none⟩), .int .i64 x] w' (PlcPost (n, u, pe) w') := fun b w' hx hE => by rw [hp]; exact cP b x w' hx hE
      have cPy : ∀ b w', Ix w' b s → Env w' → Calls Tryd.prog 20 #[.pointer (some ⟨b, 0, none⟩), .int .i64 y] w' (PlcPost (m, v, qe) w') := fun b w' hx hE => by rw [hq]; exact cP b y w' hx hE
      have HPX := Lib.hid cPx
      have HPY := Lib.hid cPy
      clear cP cPx cPy
      by_cases hok : pe = 0 ∧ qe = 0
      · obtain ⟨rfl, rfl⟩ := hok
        obtain ⟨ho1, hx0, hx1⟩ := place_back _ _ _ _ hp.symm
        obtain ⟨ho2, hy0, hy1⟩ := place_back _ _ _ _ hq.symm
        have hor := place_order _ _ _ _ _ _ _ hp.symm hq.symm
        have hu := placeP_unit _ _ _ _ hp.symm
        have hvv := placeP_unit _ _ _ _ hq.symm
        rw [← size_eq] at hu hvv
        obtain ⟨k, rfl⟩ : ∃ k : Nat, x = k := ⟨x.toNat, by omega⟩
        obtain ⟨j, rfl⟩ : ∃ j : Nat, y = j := ⟨y.toNat, by omega⟩
        rw [Int.toNat_natCast] at ho1 ho2
        have hless := less_eq (n := n) (m := m) (u := u) (v := v) (x := k) (y := j) (hor.trans (by omega))
        have cOx : ∀ b w', Ix w' b s → Env w' → Calls Tryd.prog 18 #[.pointer (some ⟨b, 0, none⟩), .agg #[.int .i64 (n : Nat), .int .i64 (u : Nat)]] w' (Lit2 (k : Nat) (0 : Nat) w') := fun b w' hx hE => (linOffset_any b s n u w' hs hv (by omega) hx hE).mono (post2_lit ho1)
        have cOy : ∀ b w', Ix w' b s → Env w' → Calls Tryd.prog 18 #[.pointer (some ⟨b, 0, none⟩), .agg #[.int .i64 (m : Nat), .int .i64 (v : Nat)]] w' (Lit2 (j : Nat) (0 : Nat) w') := fun b w' hx hE => (linOffset_any b s m v w' hs hv (by omega) hx hE).mono (post2_lit ho2)
        have HOX := Lib.hid cOx
        have HOY := Lib.hid cOy
        have HL := Lib.hid hless
        clear cOx cOy hp hq ho1 ho2 hor hless hv
        go_enter Tryd.func4, Tryd.ntmps4
        go_wp2_with (first
          | (go_at_call 14; refine (HN.out _ (HE.out.below (bal w _)).1).mono ?_; rintro e w1 ⟨b, rfl, hx1, hge, hb1⟩; have he1 := HE.out.below (bth (bal w _) hb1); obtain ⟨hc0, hc1, hc⟩ := box2 hb1)
          | (go_at_call 20; (with_reducible refine (HPY.out _ _ hx2' he2').mono ?_); rintro e w3 ⟨rfl, hb3⟩; have hx3' := (hx2'.below hb3).below (bal w3 (.cells #[.int .i64 (m : Nat), .int .i64 (v : Nat)] 23)); have he3' := (he2'.below hb3).below (bal w3 (.cells #[.int .i64 (m : Nat), .int .i64 (v : Nat)] 23)); have hq3 := bth hb3 (bal w3 (.cells #[.int .i64 (m : Nat), .int .i64 (v : Nat)] 23)); obtain ⟨hf0, hf1, _⟩ := box2 hq3)
          | (go_at_call 20; (with_reducible refine (HPX.out _ _ hx1 he1).mono ?_); rintro e w2 ⟨rfl, hb2⟩; have hx2' := (hx1.below hb2).below (bal w2 (.cells #[.int .i64 (n : Nat), .int .i64 (u : Nat)] 23)); have he2' := (he1.below hb2).below (bal w2 (.cells #[.int .i64 (n : Nat), .int .i64 (u : Nat)] 23)); have hq2 := bth (bth hb1 hb2) (bal w2 (.cells #[.int .i64 (n : Nat), .int .i64 (u : Nat)] 23)); obtain ⟨hd0, hd1, _⟩ := box2 hq2)
          | (go_at_call 18; (with_reducible refine (HOY.out _ _ hx4 he4).mono ?_); rintro e w5 ⟨rfl, hb5⟩; have he5 := he4.below hb5; replace hb5 := bth hb4 hb5; obtain ⟨hg0, hg1, _⟩ := box2 hb5; obtain ⟨hh0, hh1, _⟩ := box2 (bth hq3 hb5))
          | (go_at_call 18; (with_reducible refine (HOX.out _ _ hx3' he3').mono ?_); rintro e w4 ⟨rfl, hb4⟩; have hx4 := hx3'.below hb4; have he4 := he3'.below hb4; obtain ⟨hi0, hi1, _⟩ := box2 hb4)
          | (go_at_call 12; refine (HA.out _ he5).mono ?_; rintro e w6 ⟨rfl, hb6⟩; obtain ⟨hj0, hj1, hj2⟩ := box2 (bth (bth hq2 hq3) (bth hb5 hb6))))
        all_goals
          go_ret
          refine ⟨ret_bool' (b := true) ?_, hj2⟩
          have h := HL.out
          rw [← h]
          first
            | (simp [show n < m by omega]; done)
            | (simp [show n = m by omega]; done)
            | (simp [show ¬ n = m by omega]; done)
      · have h3 : (pe = 51 ∧ qe = 51) ∨ (pe = 51 ∧ qe = 0) ∨ (pe = 0 ∧ qe = 51) := by
          have h1 := placeP_err s.data.toList x
          have h2 := placeP_err s.data.toList y
          rw [← hp] at h1
          rw [← hq] at h2
          simp only at h1 h2
          omega
        clear hok hp hq hv
        rcases h3 with ⟨rfl, rfl⟩ | ⟨rfl, rfl⟩ | ⟨rfl, rfl⟩
        all_goals
          go_enter Tryd.func4, Tryd.ntmps4
          go_wp2_with (first
            | (go_at_call 14; refine (HN.out _ (HE.out.below (bal w _)).1).mono ?_; rintro e w1 ⟨b, rfl, hx1, hge, hb1⟩; have he1 := HE.out.below (bth (bal w _) hb1); obtain ⟨hc0, hc1, hc⟩ := box2 hb1)
            | (go_at_call 20; (with_reducible refine (HPY.out _ _ hx2' he2').mono ?_); rintro e w3 ⟨rfl, hb3⟩; have he3' := (he2'.below hb3).below (bal w3 (.cells #[.int .i64 (m : Nat), .int .i64 (v : Nat)] 23)); have hq3 := bth hb3 (bal w3 (.cells #[.int .i64 (m : Nat), .int .i64 (v : Nat)] 23)))
            | (go_at_call 20; (with_reducible refine (HPX.out _ _ hx1 he1).mono ?_); rintro e w2 ⟨rfl, hb2⟩; have hx2' := (hx1.below hb2).below (bal w2 (.cells #[.int .i64 (n : Nat), .int .i64 (u : Nat)] 23)); have he2' := (he1.below hb2).below (bal w2 (.cells #[.int .i64 (n : Nat), .int .i64 (u : Nat)] 23)); have hq2 := bth (bth hb1 hb2) (bal w2 (.cells #[.int .i64 (n : Nat), .int .i64 (u : Nat)] 23)); obtain ⟨hd0, hd1, _⟩ := box2 hq2)
            | (go_at_call 12; refine (HA.out _ he3').mono ?_; rintro e w6 ⟨rfl, hb6⟩; obtain ⟨hj0, hj1, hj2⟩ := box2 (bth (bth hq2 hq3) hb6)))
          go_ret
          exact ⟨rfl, hj2⟩
    · have hlz : (400 : Int) < (s.size : Int) := by omega
      clear hv
      go_enter Tryd.func4, Tryd.ntmps4
      go_wp2_with (first
        | (go_at_call 14; refine (HN.out _ (HE.out.below (bal w _)).1).mono ?_; rintro e w1 ⟨b, rfl, hx1, hge, hb1⟩; have he1 := HE.out.below (bth (bal w _) hb1))
        | (go_at_call 12; refine (HA.out _ he1).mono ?_; rintro e w6 ⟨rfl, hb6⟩; obtain ⟨hj0, hj1, hj2⟩ := box2 (bth hb1 hb6)))
      go_ret
      exact ⟨rfl, hj2⟩
  · have cN := fun w' hT => linNew_wrong s w' hs hv hT
    have HN := Lib.hid cN
    clear cN hv
    by_cases hlen : s.size ≤ 400
    · have hlz : decide ((400 : Int) < (s.size : Int)) = false := decide_eq_false (by omega)
      go_enter Tryd.func4, Tryd.ntmps4
      go_wp2_with (first
        | (go_at_call 14; refine (HN.out _ (HE.out.below (bal w _)).1).mono ?_; rintro e w1 ⟨rfl, hb1⟩; have he1 := HE.out.below (bth (bal w _) hb1))
        | (go_at_call 12; refine (HA.out _ he1).mono ?_; rintro e w6 ⟨rfl, hb6⟩; obtain ⟨hj0, hj1, hj2⟩ := box2 (bth hb1 hb6)))
      go_ret
      exact ⟨rfl, hj2⟩
    · have hlz : (400 : Int) < (s.size : Int) := by omega
      go_enter Tryd.func4, Tryd.ntmps4
      go_wp2_with (first
        | (go_at_call 14; refine (HN.out _ (HE.out.below (bal w _)).1).mono ?_; rintro e w1 ⟨rfl, hb1⟩; have he1 := HE.out.below (bth (bal w _) hb1))
        | (go_at_call 12; refine (HA.out _ he1).mono ?_; rintro e w6 ⟨rfl, hb6⟩; obtain ⟨hj0, hj1, hj2⟩ := box2 (bth hb1 hb6)))
      go_ret
      exact ⟨rfl, hj2⟩
end Go.Proofs.YtadkjeefiacdbaaDoor
