/-
  THE WALK of the statement LinesJoin, where it answers at once. Conditions: what Env says of the world; the texts. sizes.
-/
import Derived.Test.YtadkjeefiacdbaaDoorLinLawB
import Derived.Deep.RegionHeld3
import Derived.Deep.DrawnRows
set_option linter.unusedVariables false
set_option linter.unusedSimpArgs false
namespace Go.Proofs.YtadkjeefiacdbaaDoor
open Go.RowKit Go.Lib Go.Shelf
attribute [local go_sem ↓] Go.wp_at_zero Go.wp_at_succ

theorem offP_err (l : List UInt8) (p q : Int) : (∃ k, offP l p q = (k, 0) ∧ k ≤ l.length ∧ 0 ≤ p ∧ p < (nLines l : Nat)) ∨ offP l p q = (0, 51) := by
  unfold offP
  by_cases h : 0 ≤ p ∧ p < (nLines l : Nat)
  · rw [if_pos h]
    cases ho : offL (lineN l p.toNat) q with
    | none => exact .inr rfl
    | some k =>
      refine .inl ⟨_, rfl, ?_, h⟩
      have h1 := (lineN_at l (n := p.toNat) (by omega)).2
      have h2 : k ≤ (lineN l p.toNat).length := by
        rw [offL_find] at ho
        cases hf : findF (plU (lineN l p.toNat)) q with
        | none => rw [hf] at ho; simp at ho
        | some j =>
          rw [hf] at ho
          simp only [Option.map_some, Option.some.injEq] at ho
          rw [← ho, List.getD_eq_getElem?_getD]
          cases hg : (plB (lineN l p.toNat))[j]? with
          | none => simp
          | some y => exact plB_le _ y (List.mem_of_getElem? hg)
      omega
  · rw [if_neg h]
    exact .inr rfl

set_option maxRecDepth 100000 in
theorem linNew_gen (s : ByteArray) (w : World) (hs : s.size ≤ 16777216) (hT : Tabs w) :
    Calls Tryd.prog 14 #[.string s] w (fun e w' => ∃ (v : Value) (k : Int), e = .returned (.tuple #[v, .int .i64 k]) ∧ Below w.heap.size w w') := by
  by_cases hv : validD s.data.toList = true
  · refine (linNew_right s w hs hv hT).mono ?_
    rintro e w' ⟨b, rfl, _, _, hb⟩
    exact ⟨_, _, rfl, hb⟩
  · refine (linNew_wrong s w hs hv hT).mono ?_
    rintro e w' ⟨rfl, hb⟩
    exact ⟨_, _, rfl, hb⟩
set_option maxRecDepth 100000 in
theorem linLines_same (b : Nat) (s : ByteArray) (w : World) (hx : Ix w b s) :
    Calls Tryd.prog 16 #[.pointer (some ⟨b, 0, none⟩)] w (fun e w' => e = .returned (.int .i64 (nLines s.data.toList : Nat)) ∧ w' = w) := by
  obtain ⟨hb, g, c, h0, h1, h2⟩ := hx
  rw [starts_length] at h1
  go_enter Tryd.func16, Tryd.ntmps16
  go_wp2
  go_ret
  exact ⟨rfl, rfl⟩

/-- The one text, a byte 10, the other. -/
def zB (a b : ByteArray) : ByteArray := a ++ (⟨#[10]⟩ : ByteArray) ++ b
theorem zB_data (a b : ByteArray) : (zB a b).data.toList = a.data.toList ++ 10 :: b.data.toList := by
  unfold zB
  rw [cat_data, cat_data, List.append_assoc]
  rfl
theorem zB_size (a b : ByteArray) : (zB a b).size = a.size + 1 + b.size := by
  rw [size_eq, zB_data, List.length_append, List.length_cons, ← size_eq, ← size_eq]
  omega

set_option maxRecDepth 100000 in
set_option maxHeartbeats 4000000 in
theorem linesJoin_off (a b : ByteArray) (p q : Int) (w : World) (hE : Env w) (hsa : a.size ≤ 4194304) (hsb : b.size ≤ 4194304) (hnot : ¬ (a.size ≤ 200 ∧ b.size ≤ 200 ∧ validD a.data.toList = true ∧ validD b.data.toList = true)) :
    Calls Tryd.prog 5 #[.string a, .string b, .agg #[.int .i64 p, .int .i64 q]] w (BoolPost true w) := by
  have cA := fun w' hE => alive05_any w' hE
  have HA := Lib.hid cA
  have HE := Lib.hid hE
  have cGa := fun w' hT => linNew_gen a w' (by omega) hT
  have cGb := fun w' hT => linNew_gen b w' (by omega) hT
  have cGz : ∀ w', Tabs w' → Calls Tryd.prog 14 #[.string (a ++ (⟨#[10]⟩ : ByteArray) ++ b)] w' (fun e w'' => ∃ (v : Value) (k : Int), e = .returned (.tuple #[v, .int .i64 k]) ∧ Below w'.heap.size w' w'') := fun w' hT => linNew_gen (zB a b) w' (by rw [zB_size]; omega) hT
  have HGa := Lib.hid cGa
  have HGb := Lib.hid cGb
  have HGz := Lib.hid cGz
  clear cA hE cGa cGb cGz
  by_cases hla : a.size ≤ 200
  · have ha := decide_eq_false (p := (200 : Int) < (a.size : Int)) (by omega)
    by_cases hlb : b.size ≤ 200
    · have hb := decide_eq_false (p := (200 : Int) < (b.size : Int)) (by omega)
      by_cases hva : validD a.data.toList = true
      · have hvb : ¬ validD b.data.toList = true := fun h => hnot ⟨hla, hlb, hva, h⟩
        have cx := fun w' hT => linNew_right a w' (by omega) hva hT
        have cy := fun w' hT => linNew_wrong b w' (by omega) hvb hT
        have HX := Lib.hid cx
        have HY := Lib.hid cy
        clear cx cy hva hvb hnot
        go_enter Tryd.func5, Tryd.ntmps5
        go_wp2_with (first
          | (go_at_call 14; (with_reducible refine (HGz.out _ ?_).mono ?_); exact he2.1; rintro e w3 ⟨v3, k3, rfl, hb3⟩; have he3 := he2.below hb3; replace hb3 := bth hb2 hb3)
          | (go_at_call 14; (with_reducible refine (HY.out _ ?_).mono ?_); exact he1.1; rintro e w2 ⟨rfl, hb2⟩; have he2 := he1.below hb2; replace hb2 := bth hb1 hb2)
          | (go_at_call 14; (with_reducible refine (HX.out _ ?_).mono ?_); exact (HE.out.below (bal w _)).1; rintro e w1 ⟨bx, rfl, hx1, hge, hb1⟩; replace hb1 := bth (bal w _) hb1; have he1 := HE.out.below hb1)
          | (go_at_call 12; refine (HA.out _ he3).mono ?_; rintro e w4 ⟨rfl, hb4⟩; replace hb4 := bth hb3 hb4))
        go_ret
        exact ⟨rfl, hb4⟩
      · have cx := fun w' hT => linNew_wrong a w' (by omega) hva hT
        have HX := Lib.hid cx
        clear cx hva hnot
        go_enter Tryd.func5, Tryd.ntmps5
        go_wp2_with (first
          | (go_at_call 14; (with_reducible refine (HGz.out _ ?_).mono ?_); exact he2.1; rintro e w3 ⟨v3, k3, rfl, hb3⟩; have he3 := he2.below hb3; replace hb3 := bth hb2 hb3)
          | (go_at_call 14; (with_reducible refine (HGb.out _ ?_).mono ?_); exact he1.1; rintro e w2 ⟨v2, k2, rfl, hb2⟩; have he2 := he1.below hb2; replace hb2 := bth hb1 hb2)
          | (go_at_call 14; (with_reducible refine (HX.out _ ?_).mono ?_); exact (HE.out.below (bal w _)).1; rintro e w1 ⟨rfl, hb1⟩; replace hb1 := bth (bal w _) hb1; have he1 := HE.out.below hb1)
          | (go_at_call 12; refine (HA.out _ he3).mono ?_; rintro e w4 ⟨rfl, hb4⟩; replace hb4 := bth hb3 hb4))
        go_ret
        exact ⟨rfl, hb4⟩
    · have hb : (200 : Int) < (b.size : Int) := by omega
      clear hnot
      go_enter Tryd.func5, Tryd.ntmps5
      go_wp2_with (first
        | (go_at_call 14; (with_reducible refine (HGz.out _ ?_).mono ?_); exact he2.1; rintro e w3 ⟨v3, k3, rfl, hb3⟩; have he3 := he2.below hb3; replace hb3 := bth hb2 hb3)
        | (go_at_call 14; (with_reducible refine (HGb.out _ ?_).mono ?_); exact he1.1; rintro e w2 ⟨v2, k2, rfl, hb2⟩; have he2 := he1.below hb2; replace hb2 := bth hb1 hb2)
        | (go_at_call 14; (with_reducible refine (HGa.out _ ?_).mono ?_); exact (HE.out.below (bal w _)).1; rintro e w1 ⟨v1, k1, rfl, hb1⟩; replace hb1 := bth (bal w _) hb1; have he1 := HE.out.below hb1)
        | (go_at_call 12; refine (HA.out _ he3).mono ?_; rintro e w4 ⟨rfl, hb4⟩; replace hb4 := bth hb3 hb4))
      go_ret
      exact ⟨rfl, hb4⟩
  · have ha : (200 : Int) < (a.size : Int) := by omega
    clear hnot
    go_enter Tryd.func5, Tryd.ntmps5
    go_wp2_with (first
      | (go_at_call 14; (with_reducible refine (HGz.out _ ?_).mono ?_); exact he2.1; rintro e w3 ⟨v3, k3, rfl, hb3⟩; have he3 := he2.below hb3; replace hb3 := bth hb2 hb3)
      | (go_at_call 14; (with_reducible refine (HGb.out _ ?_).mono ?_); exact he1.1; rintro e w2 ⟨v2, k2, rfl, hb2⟩; have he2 := he1.below hb2; replace hb2 := bth hb1 hb2)
      | (go_at_call 14; (with_reducible refine (HGa.out _ ?_).mono ?_); exact (HE.out.below (bal w _)).1; rintro e w1 ⟨v1, k1, rfl, hb1⟩; replace hb1 := bth (bal w _) hb1; have he1 := HE.out.below hb1)
      | (go_at_call 12; refine (HA.out _ he3).mono ?_; rintro e w4 ⟨rfl, hb4⟩; replace hb4 := bth hb3 hb4))
    go_ret
    exact ⟨rfl, hb4⟩
end Go.Proofs.YtadkjeefiacdbaaDoor
