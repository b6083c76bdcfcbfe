/-
  THE WALKS of package edits: find. Conditions: stated at each.
-/
import Derived.Test.YtcadfaecoldcpaaDoorLinF
import Derived.Test.YtcadfaecoldcpaaDoorPl
set_option linter.unusedVariables false
set_option linter.unusedSimpArgs false
namespace Go.Proofs.YtcadfaecoldcpaaDoor
open Go.RowKit Go.Lib Go.Shelf

/-- An edit: two places, and a text. -/
structure EdV where
  fl : Int
  fu : Int
  tl : Int
  tu : Int
  t : ByteArray
def EdV.l (e : EdV) : EdL := ⟨e.fl, e.fu, e.tl, e.tu, e.t.data.toList⟩
def EdV.cells (e : EdV) : Array Value := #[.int .i64 e.fl, .int .i64 e.fu, .int .i64 e.tl, .int .i64 e.tu, .string e.t]
def EdV.val (e : EdV) : Value := .agg e.cells
structure EdV.Ok (e : EdV) : Prop where
  fu : e.fu ≤ 9223372036854775807
  tu : e.tu ≤ 9223372036854775807
  t : e.t.size ≤ 4194304

/-- A block that lies behind a call as it was laid. -/
theorem boxN {w w' : World} {C : Array Value} {t : TypeId} (h : Below (w.alloc (.cells C t)).heap.size (w.alloc (.cells C t)) w') (k : Nat) {v : Value} (hk : C[k]? = some v) : w'.cell? ⟨w.heap.size, k, none⟩ = some v := by
  have e := heap_alloc_new w (.cells C t)
  refine (h.cell (p := ⟨w.heap.size, k, none⟩) (by simp)).trans ?_
  rw [cell_of_row _ _ k _ _ _ e]
  exact hk
set_option maxRecDepth 100000 in
theorem load_cut (w : World) (b : Nat) (v0 v1 : Value) (h0 : w.cell? ⟨b, 0, none⟩ = some v0) (h1 : w.cell? ⟨b, 1, none⟩ = some v1) : (loadVar 75 ⟨b, 0, none⟩).run Tryd.prog w = .ok (.agg #[v0, v1]) w := by
  go_simp
/-- Two places in a text, and the error. -/
def CutPost (p : Nat × Nat × Nat) (w : World) (e : Ending) (w' : World) : Prop := e = .returned (.tuple #[.agg #[.int .i64 ((p.1 : Nat) : Int), .int .i64 ((p.2.1 : Nat) : Int)], .int .i64 ((p.2.2 : Nat) : Int)]) ∧ Below w.heap.size w w'
set_option maxRecDepth 100000 in
theorem ret_cut {fn : Func} {p u : Tmp} {a : Act} {w w' : World} {pl : Nat × Nat × Nat} (h : fn.results = #[.cell p 75, .tmp u]) (hd : a.defers = []) {g : Nat} (hp : a.tmps.getD p undef = .pointer (some ⟨g, 0, none⟩))
    (h0 : w'.cell? ⟨g, 0, none⟩ = some (.int .i64 ((pl.1 : Nat) : Int))) (h1 : w'.cell? ⟨g, 1, none⟩ = some (.int .i64 ((pl.2.1 : Nat) : Int))) (hu : a.tmps.getD u undef = .int .i64 ((pl.2.2 : Nat) : Int)) (hb : Below w.heap.size w w') :
    bodyPost Tryd.prog fn (CutPost pl w) .ret a w' := by
  refine bodyPost_ret (v := .tuple #[.agg #[.int .i64 ((pl.1 : Nat) : Int), .int .i64 ((pl.2.1 : Nat) : Int)], .int .i64 ((pl.2.2 : Nat) : Int)]) ?_ hd ⟨rfl, hb⟩
  rw [results_cell_tmp h, hp, hu, show (asAddr (.pointer (some ⟨g, 0, none⟩))).run Tryd.prog w' = .ok ⟨g, 0, none⟩ w' from rfl]
  show ((loadVar 75 ⟨g, 0, none⟩).run Tryd.prog w').andThen _ = _
  rw [load_cut w' g _ _ h0 h1]
  rfl

/-- Two blocks that a call begins with. -/
theorem boxes2 {w w' : World} {C D : Array Value} {t t2 : TypeId} (h : Below ((w.alloc (.cells C t)).alloc (.cells D t2)).heap.size ((w.alloc (.cells C t)).alloc (.cells D t2)) w') :
    (∀ k v, C[k]? = some v → w'.cell? ⟨w.heap.size, k, none⟩ = some v) ∧ w'.heap[w.heap.size + 1]? = some (.cells D t2) ∧ Below w.heap.size w w' := by
  have h1 := bth (bal (w.alloc (.cells C t)) (.cells D t2)) h
  refine ⟨fun k v hk => boxN h1 k hk, ?_, bth (bal w _) h1⟩
  have h2 := (h.block (w.alloc (.cells C t)).heap.size (by simp)).trans (heap_alloc_new _ _)
  rw [World.size_alloc] at h2
  exact h2
theorem two_cf {w : World} {g : Nat} {v0 v1 : Value} {t : TypeId} (h : w.heap[g]? = some (.cells #[v0, v1] t)) : w.cell? ⟨g, 0, none⟩ = some v0 ∧ w.cell? ⟨g, 1, none⟩ = some v1 ∧ w.frozen? ⟨g, 0, none⟩ = false ∧ w.frozen? ⟨g, 1, none⟩ = false := by
  refine ⟨by rw [cell_of_row _ _ 0 _ _ _ h]; rfl, by rw [cell_of_row _ _ 1 _ _ _ h]; rfl, ?_, ?_⟩
  · unfold World.frozen?
    simp only [h]
    simp
  · unfold World.frozen?
    simp only [h]
    simp

set_option maxRecDepth 100000 in
set_option maxHeartbeats 1000000 in
theorem edFind_any (s : ByteArray) (fl fu tl tu : Int) (t : ByteArray) (w : World) (hs : s.size ≤ 4194304) (ht : t.size ≤ 4194304) (hfu : fu ≤ 9223372036854775807) (htu : tu ≤ 9223372036854775807) (hE : Env w) :
    Calls Tryd.prog 49 #[.string s, .agg #[.int .i64 fl, .int .i64 fu, .int .i64 tl, .int .i64 tu, .string t]] w (CutPost (edFind s.data.toList ⟨fl, fu, tl, tu, t.data.toList⟩) w) := by
  have HE := Lib.hid hE
  by_cases hv : validD s.data.toList = true
  · have cN := fun w' hT => linNew_right s w' (by omega) hv hT
    have HN := Lib.hid cN
    cases hvt : validD t.data.toList with
    | false =>
      have cT := fun w' hT => right_any t w' (by omega) hT
      rw [hvt] at cT
      have HT := Lib.hid cT
      have e : edFind s.data.toList ⟨fl, fu, tl, tu, t.data.toList⟩ = (0, 0, 11) := by
        unfold edFind
        rw [if_neg (fun h => by have := h.2; simp only [hvt] at this; exact absurd this (by decide))]
      rw [e]
      clear hE cN cT e hv hvt
      go_enter Tryd.func49, Tryd.ntmps49
      go_wp2_with (first
        | (go_at_call 64; refine (HN.out _ (HE.out.below (bth (bal w _) (bal _ _))).1).mono ?_; rintro e w1 ⟨b, rfl, hx1, hge, hb1⟩; obtain ⟨hbca, hbha, hbwa⟩ := boxes2 hb1; have hc0a := hbca 0 _ rfl; have hc1a := hbca 1 _ rfl; have hc2a := hbca 2 _ rfl; have hc3a := hbca 3 _ rfl; have hc4a := hbca 4 _ rfl; obtain ⟨hk0a, hk1a, hf0a, hf1a⟩ := two_cf hbha; have he1 := HE.out.below hbwa)
        | (go_at_call 41; refine (HT.out _ he1.1).mono ?_; rintro e w2 ⟨rfl, hb2⟩; have hx2 := hx1.below hb2; have he2 := he1.below hb2; replace hb2 := bth hb1 hb2; obtain ⟨hbcb, hbhb, hbwb⟩ := boxes2 hb2; have hc0b := hbcb 0 _ rfl; have hc1b := hbcb 1 _ rfl; have hc2b := hbcb 2 _ rfl; have hc3b := hbcb 3 _ rfl; have hc4b := hbcb 4 _ rfl; obtain ⟨hk0b, hk1b, hf0b, hf1b⟩ := two_cf hbhb))
      (try simp only [Exit.inBlock, Exit.then])
      exact ret_cut rfl rfl rfl (set2 hbhb).1 (set2 hbhb).2 rfl (below_set hbwb (Nat.le_succ _) _ _)
    | true =>
      have cT := fun w' hT => right_any t w' (by omega) hT
      rw [hvt] at cT
      have HT := Lib.hid cT
      obtain ⟨⟨a, ea⟩, ha⟩ : ∃ z, z = offP s.data.toList fl fu := ⟨_, rfl⟩
      obtain ⟨⟨c, ec⟩, hc⟩ : ∃ z, z = offP s.data.toList tl tu := ⟨_, rfl⟩
      have cA : ∀ b' w', Ix w' b' s → Env w' → Calls Tryd.prog 65 #[.pointer (some ⟨b', 0, none⟩), .agg #[.int .i64 fl, .int .i64 fu]] w' (Lit2 (a : Nat) (ea : Nat) w') := fun b' w' hx he => (linOffset_any b' s fl fu w' (by omega) hv hfu hx he).mono (post2_lit ha.symm)
      have cB : ∀ b' w', Ix w' b' s → Env w' → Calls Tryd.prog 65 #[.pointer (some ⟨b', 0, none⟩), .agg #[.int .i64 tl, .int .i64 tu]] w' (Lit2 (c : Nat) (ec : Nat) w') := fun b' w' hx he => (linOffset_any b' s tl tu w' (by omega) hv htu hx he).mono (post2_lit hc.symm)
      have HA := Lib.hid cA
      have HB := Lib.hid cB
      have e : edFind s.data.toList ⟨fl, fu, tl, tu, t.data.toList⟩ = if ea = 0 ∧ ec = 0 then (if c < a then (0, 0, 61) else (a, c, 0)) else (0, 0, 51) := by
        unfold edFind
        rw [if_pos ⟨hv, hvt⟩]
        simp only [← ha, ← hc]
      rw [e]
      clear hE cN cT cA cB e hv hvt ha hc
      by_cases hab : ea = 0 ∧ ec = 0
      · rw [if_pos hab]
        obtain ⟨rfl, rfl⟩ := hab
        by_cases hlt : c < a
        · rw [if_pos hlt]
          have hz : (c : Int) < (a : Int) := by omega
          go_enter Tryd.func49, Tryd.ntmps49
          go_wp2_with (first
            | (go_at_call 65; (with_reducible refine (HB.out _ _ hx3 he3).mono ?_); rintro e w4 ⟨rfl, hb4⟩; replace hb4 := bth hb3 hb4; obtain ⟨hbcd, hbhd, hbwd⟩ := boxes2 hb4; have hc0d := hbcd 0 _ rfl; have hc1d := hbcd 1 _ rfl; have hc2d := hbcd 2 _ rfl; have hc3d := hbcd 3 _ rfl; have hc4d := hbcd 4 _ rfl; obtain ⟨hk0d, hk1d, hf0d, hf1d⟩ := two_cf hbhd)
            | (go_at_call 65; (with_reducible refine (HA.out _ _ hx2 he2).mono ?_); rintro e w3 ⟨rfl, hb3⟩; have hx3 := hx2.below hb3; have he3 := he2.below hb3; replace hb3 := bth hb2 hb3; obtain ⟨hbcc, hbhc, hbwc⟩ := boxes2 hb3; have hc0c := hbcc 0 _ rfl; have hc1c := hbcc 1 _ rfl; have hc2c := hbcc 2 _ rfl; have hc3c := hbcc 3 _ rfl; have hc4c := hbcc 4 _ rfl; obtain ⟨hk0c, hk1c, hf0c, hf1c⟩ := two_cf hbhc)
            | (go_at_call 64; refine (HN.out _ (HE.out.below (bth (bal w _) (bal _ _))).1).mono ?_; rintro e w1 ⟨b, rfl, hx1, hge, hb1⟩; obtain ⟨hbca, hbha, hbwa⟩ := boxes2 hb1; have hc0a := hbca 0 _ rfl; have hc1a := hbca 1 _ rfl; have hc2a := hbca 2 _ rfl; have hc3a := hbca 3 _ rfl; have hc4a := hbca 4 _ rfl; obtain ⟨hk0a, hk1a, hf0a, hf1a⟩ := two_cf hbha; have he1 := HE.out.below hbwa)
            | (go_at_call 41; refine (HT.out _ he1.1).mono ?_; rintro e w2 ⟨rfl, hb2⟩; have hx2 := hx1.below hb2; have he2 := he1.below hb2; replace hb2 := bth hb1 hb2; obtain ⟨hbcb, hbhb, hbwb⟩ := boxes2 hb2; have hc0b := hbcb 0 _ rfl; have hc1b := hbcb 1 _ rfl; have hc2b := hbcb 2 _ rfl; have hc3b := hbcb 3 _ rfl; have hc4b := hbcb 4 _ rfl; obtain ⟨hk0b, hk1b, hf0b, hf1b⟩ := two_cf hbhb))
          (try simp only [Exit.inBlock, Exit.then])
          exact ret_cut rfl rfl rfl (set2 hbhd).1 (set2 hbhd).2 rfl (below_set hbwd (Nat.le_succ _) _ _)
        · rw [if_neg hlt]
          have hz : (a : Int) ≤ (c : Int) := by omega
          have hz' : decide (c < a) = false := decide_eq_false hlt
          go_enter Tryd.func49, Tryd.ntmps49
          go_wp2_with (first
            | (go_at_call 65; (with_reducible refine (HB.out _ _ hx3 he3).mono ?_); rintro e w4 ⟨rfl, hb4⟩; replace hb4 := bth hb3 hb4; obtain ⟨hbcd, hbhd, hbwd⟩ := boxes2 hb4; have hc0d := hbcd 0 _ rfl; have hc1d := hbcd 1 _ rfl; have hc2d := hbcd 2 _ rfl; have hc3d := hbcd 3 _ rfl; have hc4d := hbcd 4 _ rfl; obtain ⟨hk0d, hk1d, hf0d, hf1d⟩ := two_cf hbhd)
            | (go_at_call 65; (with_reducible refine (HA.out _ _ hx2 he2).mono ?_); rintro e w3 ⟨rfl, hb3⟩; have hx3 := hx2.below hb3; have he3 := he2.below hb3; replace hb3 := bth hb2 hb3; obtain ⟨hbcc, hbhc, hbwc⟩ := boxes2 hb3; have hc0c := hbcc 0 _ rfl; have hc1c := hbcc 1 _ rfl; have hc2c := hbcc 2 _ rfl; have hc3c := hbcc 3 _ rfl; have hc4c := hbcc 4 _ rfl; obtain ⟨hk0c, hk1c, hf0c, hf1c⟩ := two_cf hbhc)
            | (go_at_call 64; refine (HN.out _ (HE.out.below (bth (bal w _) (bal _ _))).1).mono ?_; rintro e w1 ⟨b, rfl, hx1, hge, hb1⟩; obtain ⟨hbca, hbha, hbwa⟩ := boxes2 hb1; have hc0a := hbca 0 _ rfl; have hc1a := hbca 1 _ rfl; have hc2a := hbca 2 _ rfl; have hc3a := hbca 3 _ rfl; have hc4a := hbca 4 _ rfl; obtain ⟨hk0a, hk1a, hf0a, hf1a⟩ := two_cf hbha; have he1 := HE.out.below hbwa)
            | (go_at_call 41; refine (HT.out _ he1.1).mono ?_; rintro e w2 ⟨rfl, hb2⟩; have hx2 := hx1.below hb2; have he2 := he1.below hb2; replace hb2 := bth hb1 hb2; obtain ⟨hbcb, hbhb, hbwb⟩ := boxes2 hb2; have hc0b := hbcb 0 _ rfl; have hc1b := hbcb 1 _ rfl; have hc2b := hbcb 2 _ rfl; have hc3b := hbcb 3 _ rfl; have hc4b := hbcb 4 _ rfl; obtain ⟨hk0b, hk1b, hf0b, hf1b⟩ := two_cf hbhb))
          (try simp only [Exit.inBlock, Exit.then])
          exact ret_cut rfl rfl rfl (set2 hbhd).1 (set2 hbhd).2 rfl (below_set hbwd (Nat.le_succ _) _ _)
      · rw [if_neg hab]
        by_cases hea : ea = 0
        · subst hea
          have hec : ((ec : Int) == 0) = false := by
            rw [beq_eq_false_iff_ne]
            omega
          go_enter Tryd.func49, Tryd.ntmps49
          go_wp2_with (first
            | (go_at_call 65; (with_reducible refine (HB.out _ _ hx3 he3).mono ?_); rintro e w4 ⟨rfl, hb4⟩; replace hb4 := bth hb3 hb4; obtain ⟨hbcd, hbhd, hbwd⟩ := boxes2 hb4; have hc0d := hbcd 0 _ rfl; have hc1d := hbcd 1 _ rfl; have hc2d := hbcd 2 _ rfl; have hc3d := hbcd 3 _ rfl; have hc4d := hbcd 4 _ rfl; obtain ⟨hk0d, hk1d, hf0d, hf1d⟩ := two_cf hbhd)
            | (go_at_call 65; (with_reducible refine (HA.out _ _ hx2 he2).mono ?_); rintro e w3 ⟨rfl, hb3⟩; have hx3 := hx2.below hb3; have he3 := he2.below hb3; replace hb3 := bth hb2 hb3; obtain ⟨hbcc, hbhc, hbwc⟩ := boxes2 hb3; have hc0c := hbcc 0 _ rfl; have hc1c := hbcc 1 _ rfl; have hc2c := hbcc 2 _ rfl; have hc3c := hbcc 3 _ rfl; have hc4c := hbcc 4 _ rfl; obtain ⟨hk0c, hk1c, hf0c, hf1c⟩ := two_cf hbhc)
            | (go_at_call 64; refine (HN.out _ (HE.out.below (bth (bal w _) (bal _ _))).1).mono ?_; rintro e w1 ⟨b, rfl, hx1, hge, hb1⟩; obtain ⟨hbca, hbha, hbwa⟩ := boxes2 hb1; have hc0a := hbca 0 _ rfl; have hc1a := hbca 1 _ rfl; have hc2a := hbca 2 _ rfl; have hc3a := hbca 3 _ rfl; have hc4a := hbca 4 _ rfl; obtain ⟨hk0a, hk1a, hf0a, hf1a⟩ := two_cf hbha; have he1 := HE.out.below hbwa)
            | (go_at_call 41; refine (HT.out _ he1.1).mono ?_; rintro e w2 ⟨rfl, hb2⟩; have hx2 := hx1.below hb2; have he2 := he1.below hb2; replace hb2 := bth hb1 hb2; obtain ⟨hbcb, hbhb, hbwb⟩ := boxes2 hb2; have hc0b := hbcb 0 _ rfl; have hc1b := hbcb 1 _ rfl; have hc2b := hbcb 2 _ rfl; have hc3b := hbcb 3 _ rfl; have hc4b := hbcb 4 _ rfl; obtain ⟨hk0b, hk1b, hf0b, hf1b⟩ := two_cf hbhb))
          (try simp only [Exit.inBlock, Exit.then])
          exact ret_cut rfl rfl rfl (set2 hbhd).1 (set2 hbhd).2 rfl (below_set hbwd (Nat.le_succ _) _ _)
        · have hea' : ((ea : Int) == 0) = false := by
            rw [beq_eq_false_iff_ne]
            omega
          go_enter Tryd.func49, Tryd.ntmps49
          go_wp2_with (first
            | (go_at_call 65; (with_reducible refine (HB.out _ _ hx3 he3).mono ?_); rintro e w4 ⟨rfl, hb4⟩; replace hb4 := bth hb3 hb4; obtain ⟨hbcd, hbhd, hbwd⟩ := boxes2 hb4; have hc0d := hbcd 0 _ rfl; have hc1d := hbcd 1 _ rfl; have hc2d := hbcd 2 _ rfl; have hc3d := hbcd 3 _ rfl; have hc4d := hbcd 4 _ rfl; obtain ⟨hk0d, hk1d, hf0d, hf1d⟩ := two_cf hbhd)
            | (go_at_call 65; (with_reducible refine (HA.out _ _ hx2 he2).mono ?_); rintro e w3 ⟨rfl, hb3⟩; have hx3 := hx2.below hb3; have he3 := he2.below hb3; replace hb3 := bth hb2 hb3; obtain ⟨hbcc, hbhc, hbwc⟩ := boxes2 hb3; have hc0c := hbcc 0 _ rfl; have hc1c := hbcc 1 _ rfl; have hc2c := hbcc 2 _ rfl; have hc3c := hbcc 3 _ rfl; have hc4c := hbcc 4 _ rfl; obtain ⟨hk0c, hk1c, hf0c, hf1c⟩ := two_cf hbhc)
            | (go_at_call 64; refine (HN.out _ (HE.out.below (bth (bal w _) (bal _ _))).1).mono ?_; rintro e w1 ⟨b, rfl, hx1, hge, hb1⟩; obtain ⟨hbca, hbha, hbwa⟩ := boxes2 hb1; have hc0a := hbca 0 _ rfl; have hc1a := hbca 1 _ rfl; have hc2a := hbca 2 _ rfl; have hc3a := hbca 3 _ rfl; have hc4a := hbca 4 _ rfl; obtain ⟨hk0a, hk1a, hf0a, hf1a⟩ := two_cf hbha; have he1 := HE.out.below hbwa)
            | (go_at_call 41; refine (HT.out _ he1.1).mono ?_; rintro e w2 ⟨rfl, hb2⟩; have hx2 := hx1.below hb2; have he2 := he1.below hb2; replace hb2 := bth hb1 hb2; obtain ⟨hbcb, hbhb, hbwb⟩ := boxes2 hb2; have hc0b := hbcb 0 _ rfl; have hc1b := hbcb 1 _ rfl; have hc2b := hbcb 2 _ rfl; have hc3b := hbcb 3 _ rfl; have hc4b := hbcb 4 _ rfl; obtain ⟨hk0b, hk1b, hf0b, hf1b⟩ := two_cf hbhb))
          (try simp only [Exit.inBlock, Exit.then])
          exact ret_cut rfl rfl rfl (set2 hbhd).1 (set2 hbhd).2 rfl (below_set hbwd (Nat.le_succ _) _ _)
  · have cN := fun w' hT => linNew_wrong s w' (by omega) hv hT
    have HN := Lib.hid cN
    have e : edFind s.data.toList ⟨fl, fu, tl, tu, t.data.toList⟩ = (0, 0, 11) := by
      unfold edFind
      rw [if_neg (fun h => hv h.1)]
    rw [e]
    clear hE cN e hv
    go_enter Tryd.func49, Tryd.ntmps49
    go_wp2_with (first
      | (go_at_call 64; refine (HN.out _ (HE.out.below (bth (bal w _) (bal _ _))).1).mono ?_; rintro e w1 ⟨rfl, hb1⟩; obtain ⟨hbca, hbha, hbwa⟩ := boxes2 hb1; have hc0a := hbca 0 _ rfl; have hc1a := hbca 1 _ rfl; have hc2a := hbca 2 _ rfl; have hc3a := hbca 3 _ rfl; have hc4a := hbca 4 _ rfl; obtain ⟨hk0a, hk1a, hf0a, hf1a⟩ := two_cf hbha))
    (try simp only [Exit.inBlock, Exit.then])
    exact ret_cut rfl rfl rfl (set2 hbha).1 (set2 hbha).2 rfl (below_set hbwa (Nat.le_succ _) _ _)
end Go.Proofs.YtcadfaecoldcpaaDoor
