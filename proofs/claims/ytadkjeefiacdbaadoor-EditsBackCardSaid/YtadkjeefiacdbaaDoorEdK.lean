/-
  THE WALK of the document's Between. Conditions: stated at each.
-/
import Derived.Test.YtadkjeefiacdbaaDoorEdJ
import Derived.Deep.RegionHeld3
import Derived.Deep.DrawnRows
import Derived.Deep.DeepCutAuto
set_option linter.unusedVariables false
set_option linter.unusedSimpArgs false
namespace Go.Proofs.YtadkjeefiacdbaaDoor
open Go.RowKit Go.Lib Go.Shelf
attribute [local go_sem ↓] Go.wp_at_zero Go.wp_at_succ

/-- A block that a call begins with. -/
theorem boxes1h {w w' : World} {C : Array Value} {t : TypeId} (h : Below (w.alloc (.cells C t)).heap.size (w.alloc (.cells C t)) w') :
    w'.heap[w.heap.size]? = some (.cells C t) ∧ Below w.heap.size w w' ∧ w.heap.size + 1 ≤ w'.heap.size := by
  have hs := h.size
  rw [World.size_alloc] at hs
  exact ⟨(h.block w.heap.size (by simp)).trans (heap_alloc_new _ _), bth (bal w _) h, hs⟩

set_option maxRecDepth 100000 in
set_option maxHeartbeats 1000000 in
theorem refBetween_ok (a b : ByteArray) (w : World) (hsa : a.size ≤ 4194304) (hsb : b.size ≤ 4194304) (hva : validD a.data.toList = true) (hvb : validD b.data.toList = true) :
    Calls Tryd.prog 27 #[.string a, .string b] w (EdPost (betV a b) 0 w) := by
  have cRa := fun w' => refRight_any a w' (by omega)
  have cRb := fun w' => refRight_any b w' (by omega)
  rw [hva] at cRa
  rw [hvb] at cRb
  obtain ⟨N, hN⟩ : ∃ N, N = begN a.data.toList b.data.toList := ⟨_, rfl⟩
  obtain ⟨K, hK⟩ : ∃ K, K = finR a.data.toList b.data.toList := ⟨_, rfl⟩
  have hl := finR_le a.data.toList b.data.toList
  rw [← hN, ← hK, ← size_eq, ← size_eq] at hl
  obtain ⟨hla, hlb⟩ := hl
  have cB := fun w' => refBegins_any a b w' hsa hsb
  rw [← hN] at cB
  have cF : ∀ w', Calls Tryd.prog 45 #[.string (a.extract N a.size), .string (b.extract N b.size)] w' (fun e w'' => e = .returned (.int .i64 (K : Nat)) ∧ Below w'.heap.size w' w'') := fun w' => by
    have := refFinishes_any (a.extract N a.size) (b.extract N b.size) w' (by rw [ByteArray.size_extract]; omega) (by rw [ByteArray.size_extract]; omega)
    rw [ext_take, ext_take] at this
    rw [hK]
    unfold finR
    rw [← hN]
    exact this
  obtain ⟨⟨p1, q1, e1⟩, hp1⟩ : ∃ z, z = placeP a.data.toList (N : Nat) := ⟨_, rfl⟩
  obtain ⟨⟨p2, q2, e2⟩, hp2⟩ : ∃ z, z = placeP a.data.toList ((a.size - K : Nat) : Int) := ⟨_, rfl⟩
  have hV : betV a b = ⟨(p1 : Nat), (q1 : Nat), (p2 : Nat), (q2 : Nat), b.extract N (b.size - K)⟩ := by
    unfold betV
    rw [← hN, ← hK, ← size_eq, ← hp1, ← hp2]
  have cP1 : ∀ w', Calls Tryd.prog 21 #[.string a, .int .i64 (N : Nat)] w' (PlcPost (p1, q1, e1) w') := fun w' => by
    rw [hp1]
    exact refPlace_any a _ w' (by omega) hva (by omega)
  have cP2 : ∀ w', Calls Tryd.prog 21 #[.string a, .int .i64 ((a.size : Int) - (K : Int))] w' (PlcPost (p2, q2, e2) w') := fun w' => by
    rw [hp2, show (a.size : Int) - (K : Int) = ((a.size - K : Nat) : Int) by omega]
    exact refPlace_any a _ w' (by omega) hva (by omega)
  rw [hV]
  have HRa := Lib.hid cRa
  have HRb := Lib.hid cRb
  have HB := Lib.hid cB
  have HF := Lib.hid cF
  have HP1 := Lib.hid cP1
  have HP2 := Lib.hid cP2
  have hNa : (N : Int) ≤ (a.size : Int) := by omega
  have hNb : (N : Int) ≤ (b.size : Int) := by omega
  have hKa : (K : Int) ≤ (a.size : Int) := by omega
  have hKb : (N : Int) ≤ (b.size : Int) - (K : Int) := by omega
  clear cRa cRb cB cF cP1 cP2 hp1 hp2 hV hN hK hva hvb
  go_enter Tryd.func27, Tryd.ntmps27
  go_upto_region 6 with (first
    | (go_at_call 44; refine (HB.out _).mono ?_; rintro e w3 ⟨rfl, hb3⟩; replace hb3 := bth hb2 hb3)
    | (go_at_call 13; refine (HRb.out w1).mono ?_; rintro e w2 ⟨rfl, hb2⟩; replace hb2 := bth hb1 hb2)
    | (go_at_call 13; refine (HRa.out _).mono ?_; rintro e w1 ⟨rfl, hb1⟩))
  go_cut [9] (fun v wx => v = .int .i64 (K : Nat) ∧ Below (w.alloc (.cells #[.int .i64 0, .int .i64 0, .int .i64 0, .int .i64 0, .string ⟨#[]⟩] 51)).heap.size (w.alloc (.cells #[.int .i64 0, .int .i64 0, .int .i64 0, .int .i64 0, .string ⟨#[]⟩] 51)) wx)
  case first =>
    go_region_held3 (fun _ => True) (trivial)
      (first
        | (go_at_call 45; refine (HF.out _).mono ?_; rintro e w4 ⟨rfl, hb4⟩; replace hb4 := bdr hb4))
    all_goals (go_wp2_with fail; go_meet; exact ⟨rfl, bth hb3 hb4⟩)
  case rest =>
    obtain ⟨rfl, hb5⟩ := hcut
    go_upto_region 9 with (first
      | (go_at_call 21; (with_reducible refine (HP2.out _).mono ?_); rintro e w7 ⟨rfl, hb7⟩; obtain ⟨hp0, hp1, _⟩ := box2 (bth hb7 (bal w7 (.cells #[.int .i64 (p2 : Nat), .int .i64 (q2 : Nat)] 23))); have hb8 := bth (bth hb6 hb7) (bal w7 (.cells #[.int .i64 (p2 : Nat), .int .i64 (q2 : Nat)] 23)); obtain ⟨hr8, hw8, hz8⟩ := boxes1h hb8; have hm := heap_alloc_new w7 (.cells #[.int .i64 (p2 : Nat), .int .i64 (q2 : Nat)] 23); obtain ⟨hq0, hq1, _, _⟩ := two_cf hm; clear hm hb8 hz8; obtain ⟨hfc, hff⟩ := five_cf hr8; have hk0 := hfc 0 _ rfl; have hk1 := hfc 1 _ rfl; have hk2 := hfc 2 _ rfl; have hk3 := hfc 3 _ rfl; have hk4 := hfc 4 _ rfl; have hf0 := hff 0; have hf1 := hff 1; have hf2 := hff 2; have hf3 := hff 3; have hf4 := hff 4; clear hfc hff)
      | (go_at_call 21; (with_reducible refine (HP1.out _).mono ?_); rintro e w6 ⟨rfl, hb6⟩; replace hb6 := bth (bth hb5 hb6) (bal w6 (.cells #[.int .i64 (p1 : Nat), .int .i64 (q1 : Nat)] 23))))
    generalize w7.alloc (.cells #[.int .i64 (p2 : Nat), .int .i64 (q2 : Nat)] 23) = W at hp0 hp1 hr8 hw8 hq0 hq1 hk0 hk1 hk2 hk3 hk4 hf0 hf1 hf2 hf3 hf4 ⊢
    go_region
    go_wp2
    (try simp only [Exit.inBlock, Exit.then])
    obtain ⟨h5, _⟩ := five_cf (set5d (g := w.heap.size) (u0 := .int .i64 (p1 : Nat)) (u1 := .int .i64 (q1 : Nat)) (u2 := .int .i64 (p2 : Nat)) (u3 := .int .i64 (q2 : Nat)) (u4 := .string (b.extract N (b.size - K))) hr8)
    have k0 := h5 0 _ rfl
    have k1 := h5 1 _ rfl
    have k2 := h5 2 _ rfl
    have k3 := h5 3 _ rfl
    have k4 := h5 4 _ rfl
    have hbb := (below_set5 (g := w.heap.size) hw8 (Nat.le_refl _) (.int .i64 (p1 : Nat)) (.int .i64 (q1 : Nat)) (.int .i64 (p2 : Nat)) (.int .i64 (q2 : Nat)) (.string (b.extract N (b.size - K)))).drew
    exact ret_edit (v := ⟨(p1 : Nat), (q1 : Nat), (p2 : Nat), (q2 : Nat), b.extract N (b.size - K)⟩) rfl rfl rfl k0 k1 k2 k3 k4 rfl hbb

set_option maxRecDepth 100000 in
set_option maxHeartbeats 1000000 in
theorem refBetween_not (a b : ByteArray) (w : World) (hsa : a.size ≤ 4194304) (hsb : b.size ≤ 4194304) (hv : ¬ (validD a.data.toList = true ∧ validD b.data.toList = true)) :
    Calls Tryd.prog 27 #[.string a, .string b] w (EdPost zeroV 11 w) := by
  have cRa := fun w' => refRight_any a w' (by omega)
  have cRb := fun w' => refRight_any b w' (by omega)
  obtain ⟨va, hva⟩ : ∃ v, v = validD a.data.toList := ⟨_, rfl⟩
  obtain ⟨vb, hvb⟩ : ∃ v, v = validD b.data.toList := ⟨_, rfl⟩
  rw [← hva] at cRa hv
  rw [← hvb] at cRb hv
  have HRa := Lib.hid cRa
  have HRb := Lib.hid cRb
  clear cRa cRb hva hvb
  have key : ∀ w2 : World, Below (w.alloc (.cells #[.int .i64 0, .int .i64 0, .int .i64 0, .int .i64 0, .string ⟨#[]⟩] 51)).heap.size (w.alloc (.cells #[.int .i64 0, .int .i64 0, .int .i64 0, .int .i64 0, .string ⟨#[]⟩] 51)) w2 → w2.heap[w.heap.size]? = some (.cells #[.int .i64 0, .int .i64 0, .int .i64 0, .int .i64 0, .string ⟨#[]⟩] 51) ∧ Below w.heap.size w w2 := fun w2 h => ⟨(boxes1h h).1, (boxes1h h).2.1⟩
  have KEY := Lib.hid key
  clear key
  cases va with
  | true =>
    cases vb with
    | true => exact absurd ⟨rfl, rfl⟩ hv
    | false =>
      clear hv
      go_enter Tryd.func27, Tryd.ntmps27
      go_wp2_with (first
        | (go_at_call 13; refine (HRb.out w1).mono ?_; rintro e w2 ⟨rfl, hb2⟩; replace hb2 := bth hb1 hb2; obtain ⟨hr8, hw8⟩ := KEY.out _ hb2; obtain ⟨hfc, hff⟩ := five_cf hr8; have hk0 := hfc 0 _ rfl; have hk1 := hfc 1 _ rfl; have hk2 := hfc 2 _ rfl; have hk3 := hfc 3 _ rfl; have hk4 := hfc 4 _ rfl; have hf0 := hff 0; have hf1 := hff 1; have hf2 := hff 2; have hf3 := hff 3; have hf4 := hff 4; clear hfc hff)
        | (go_at_call 13; refine (HRa.out _).mono ?_; rintro e w1 ⟨rfl, hb1⟩))
      (try simp only [Exit.inBlock, Exit.then])
      obtain ⟨h5, _⟩ := five_cf (set5 (u0 := .int .i64 0) (u1 := .int .i64 0) (u2 := .int .i64 0) (u3 := .int .i64 0) (u4 := .string ⟨#[]⟩) hr8)
      exact ret_edit rfl rfl rfl (h5 0 _ rfl) (h5 1 _ rfl) (h5 2 _ rfl) (h5 3 _ rfl) (h5 4 _ rfl) rfl (below_set5 hw8 (Nat.le_refl _) _ _ _ _ _)
  | false =>
    clear hv
    go_enter Tryd.func27, Tryd.ntmps27
    go_wp2_with (first
      | (go_at_call 13; refine (HRb.out w1).mono ?_; rintro e w2 ⟨rfl, hb2⟩; replace hb2 := bth hb1 hb2; obtain ⟨hr8, hw8⟩ := KEY.out _ hb2; obtain ⟨hfc, hff⟩ := five_cf hr8; have hk0 := hfc 0 _ rfl; have hk1 := hfc 1 _ rfl; have hk2 := hfc 2 _ rfl; have hk3 := hfc 3 _ rfl; have hk4 := hfc 4 _ rfl; have hf0 := hff 0; have hf1 := hff 1; have hf2 := hff 2; have hf3 := hff 3; have hf4 := hff 4; clear hfc hff)
      | (go_at_call 13; refine (HRa.out _).mono ?_; rintro e w1 ⟨rfl, hb1⟩))
    (try simp only [Exit.inBlock, Exit.then])
    obtain ⟨h5, _⟩ := five_cf (set5 (u0 := .int .i64 0) (u1 := .int .i64 0) (u2 := .int .i64 0) (u3 := .int .i64 0) (u4 := .string ⟨#[]⟩) hr8)
    exact ret_edit rfl rfl rfl (h5 0 _ rfl) (h5 1 _ rfl) (h5 2 _ rfl) (h5 3 _ rfl) (h5 4 _ rfl) rfl (below_set5 hw8 (Nat.le_refl _) _ _ _ _ _)
end Go.Proofs.YtadkjeefiacdbaaDoor
