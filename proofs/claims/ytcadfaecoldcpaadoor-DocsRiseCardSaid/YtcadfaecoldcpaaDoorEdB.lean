/-
  THE WALKS of package edits: one. Conditions: stated at each.
-/
import Derived.Test.YtcadfaecoldcpaaDoorEdA
import Derived.RegionTactic
import Derived.BigRegion
set_option linter.unusedVariables false
set_option linter.unusedSimpArgs false
namespace Go.Proofs.YtcadfaecoldcpaaDoor
open Go.RowKit Go.Lib Go.Shelf

theorem results_tct {fn : Func} {t p u : Tmp} {ty : TypeId} (h : fn.results = #[.tmp t, .cell p ty, .tmp u]) (tmps : Array Value) (P : Program) (w : World) :
    (results fn tmps).run P w =
      ((asAddr (tmps.getD p undef)).run P w).andThen fun a w₁ => ((loadVar ty a).run P w₁).andThen fun v w₂ => .ok (.tuple #[tmps.getD t undef, v, tmps.getD u undef]) w₂ := by
  simp only [results, h]
  simp [Sem.run_bind, Result.andThen]
def OnePost (x : ByteArray) (p : Nat × Nat × Nat) (w : World) (e : Ending) (w' : World) : Prop := e = .returned (.tuple #[.string x, .agg #[.int .i64 ((p.1 : Nat) : Int), .int .i64 ((p.2.1 : Nat) : Int)], .int .i64 ((p.2.2 : Nat) : Int)]) ∧ Below w.heap.size w w'
set_option maxRecDepth 100000 in
theorem ret_one {fn : Func} {t p u : Tmp} {a : Act} {w w' : World} {x : ByteArray} {pl : Nat × Nat × Nat} (h : fn.results = #[.tmp t, .cell p 75, .tmp u]) (hd : a.defers = []) {g : Nat} (hp : a.tmps.getD p undef = .pointer (some ⟨g, 0, none⟩)) (ht : a.tmps.getD t undef = .string x)
    (h0 : w'.cell? ⟨g, 0, none⟩ = some (.int .i64 ((pl.1 : Nat) : Int))) (h1 : w'.cell? ⟨g, 1, none⟩ = some (.int .i64 ((pl.2.1 : Nat) : Int))) (hu : a.tmps.getD u undef = .int .i64 ((pl.2.2 : Nat) : Int)) (hb : Below w.heap.size w w') :
    bodyPost Tryd.prog fn (OnePost x pl w) .ret a w' := by
  refine bodyPost_ret (v := .tuple #[.string x, .agg #[.int .i64 ((pl.1 : Nat) : Int), .int .i64 ((pl.2.1 : Nat) : Int)], .int .i64 ((pl.2.2 : Nat) : Int)]) ?_ hd ⟨rfl, hb⟩
  rw [results_tct h, hp, hu, ht, show (asAddr (.pointer (some ⟨g, 0, none⟩))).run Tryd.prog w' = .ok ⟨g, 0, none⟩ w' from rfl]
  show ((loadVar 75 ⟨g, 0, none⟩).run Tryd.prog w').andThen _ = _
  rw [load_cut w' g _ _ h0 h1]
  rfl
def edB (s : ByteArray) (e : EdL) : ByteArray := ⟨(edOne s.data.toList e).1.toArray⟩
theorem edB_data (s : ByteArray) (e : EdL) : (edB s e).data.toList = (edOne s.data.toList e).1 := by simp [edB]

set_option maxRecDepth 100000 in
set_option maxHeartbeats 1000000 in
theorem edOne_any (s : ByteArray) (fl fu tl tu : Int) (t : ByteArray) (w : World) (hs : s.size ≤ 4194304) (ht : t.size ≤ 4194304) (hfu : fu ≤ 9223372036854775807) (htu : tu ≤ 9223372036854775807) (hE : Env w) :
    Calls Tryd.prog 42 #[.string s, .agg #[.int .i64 fl, .int .i64 fu, .int .i64 tl, .int .i64 tu, .string t]] w (OnePost (edB s ⟨fl, fu, tl, tu, t.data.toList⟩) (edOne s.data.toList ⟨fl, fu, tl, tu, t.data.toList⟩).2 w) := by
  have HE := Lib.hid hE
  have cF := fun w' he => edFind_any s fl fu tl tu t w' hs ht hfu htu he
  obtain ⟨e, he⟩ : ∃ e : EdL, e = ⟨fl, fu, tl, tu, t.data.toList⟩ := ⟨_, rfl⟩
  rw [← he] at cF ⊢
  by_cases h1 : (edFind s.data.toList e).2.2 = 0
  · obtain ⟨hv, hvt, hoa, hoc, hac⟩ := edFind_ok h1
    have hcs := edFind_le h1
    rw [← size_eq] at hcs
    obtain ⟨⟨a, c, er⟩, hf⟩ : ∃ z, z = edFind s.data.toList e := ⟨_, rfl⟩
    have eO : edOne s.data.toList e = if 16384 + (c - a) < s.data.toList.length + e.t.length then ([], 0, 0, 73) else (edText s.data.toList e.t a c, a, c, 0) := by
      unfold edOne
      rw [if_pos h1, ← hf]
    rw [← hf] at cF h1 hac hcs
    simp only at h1 hac hcs
    subst h1
    have et : e.t = t.data.toList := by rw [he]
    rw [et, ← size_eq, ← size_eq] at eO
    have haz : (a : Int) ≤ (c : Int) := by omega
    have hcz : (c : Int) ≤ (s.size : Int) := by omega
    have haz2 : (a : Int) ≤ (s.size : Int) := by omega
    have HF := Lib.hid cF
    by_cases hlen : 16384 + (c - a) < s.size + t.size
    · rw [if_pos hlen] at eO
      have eB : edB s e = ⟨#[]⟩ := by unfold edB; rw [eO]
      rw [eB, eO]
      have hz : (16384 : Int) < (s.size : Int) - ((c : Int) - (a : Int)) + (t.size : Int) := by omega
      clear cF hE eO eB hf he et hlen hoa hoc hv hvt
      go_enter Tryd.func42, Tryd.ntmps42
      go_wp2_with (first
        | (go_at_call 49; refine (HF.out _ (HE.out.below (bth (bal w _) (bal _ _)))).mono ?_; rintro e w1 ⟨rfl, hb1⟩; obtain ⟨hbc, hbh, hbw⟩ := boxes2 (bth hb1 (bal w1 (.cells #[.int .i64 (a : Nat), .int .i64 (c : Nat)] 75))); obtain ⟨hk0, hk1, hf0, hf1⟩ := two_cf hbh; have hc4 := hbc 4 _ rfl))
      (try simp only [Exit.inBlock, Exit.then])
      exact ret_one rfl rfl rfl rfl (set2 hbh).1 (set2 hbh).2 rfl (below_set hbw (Nat.le_succ _) _ _)
    · rw [if_neg hlen] at eO
      have eB : edB s e = s.extract 0 a ++ t ++ s.extract c s.size := by
        apply ByteArray.ext
        apply Array.ext'
        show (edB s e).data.toList = _
        rw [edB_data, eO, cat_data, cat_data, ext_zero, ext_take]
        rfl
      rw [eB, eO]
      have hz : (s.size : Int) - ((c : Int) - (a : Int)) + (t.size : Int) ≤ 16384 := by omega
      clear cF hE eO eB hf he et hlen hoa hoc hv hvt
      go_enter Tryd.func42, Tryd.ntmps42
      go_wp2_with (first
        | (go_at_call 49; refine (HF.out _ (HE.out.below (bth (bal w _) (bal _ _)))).mono ?_; rintro e w1 ⟨rfl, hb1⟩; obtain ⟨hbc, hbh, hbw⟩ := boxes2 (bth hb1 (bal w1 (.cells #[.int .i64 (a : Nat), .int .i64 (c : Nat)] 75))); obtain ⟨hk0, hk1, hf0, hf1⟩ := two_cf hbh; have hc4 := hbc 4 _ rfl; have hm := heap_alloc_new w1 (.cells #[.int .i64 (a : Nat), .int .i64 (c : Nat)] 75); obtain ⟨hm0, hm1, _, _⟩ := two_cf hm; clear hm))
      generalize w1.alloc (.cells #[.int .i64 (a : Nat), .int .i64 (c : Nat)] 75) = W at hbh hbw hk0 hk1 hf0 hf1 hc4 hm0 hm1 ⊢
      clear hbc
      go_region
      go_wp2
      (try simp only [Exit.inBlock, Exit.then])
      have hbh' : W.drew.heap[w.heap.size + 1]? = some (.cells #[.int .i64 0, .int .i64 0] 75) := hbh
      exact ret_one rfl rfl rfl rfl (set2 hbh').1 (set2 hbh').2 rfl (below_set hbw.drew (Nat.le_succ _) _ _)
  · have eO : edOne s.data.toList e = ([], 0, 0, (edFind s.data.toList e).2.2) := by
      unfold edOne
      rw [if_neg h1]
    have eB : edB s e = ⟨#[]⟩ := by unfold edB; rw [eO]
    rw [eB, eO]
    obtain ⟨⟨a, c, er⟩, hf⟩ : ∃ z, z = edFind s.data.toList e := ⟨_, rfl⟩
    rw [← hf] at cF h1 ⊢
    simp only at h1 ⊢
    have her : ((er : Int) == 0) = false := by
      rw [beq_eq_false_iff_ne]
      omega
    have HF := Lib.hid cF
    clear cF hE eO eB hf h1 he
    go_enter Tryd.func42, Tryd.ntmps42
    go_wp2_with (first
      | (go_at_call 49; refine (HF.out _ (HE.out.below (bth (bal w _) (bal _ _)))).mono ?_; rintro e w1 ⟨rfl, hb1⟩; obtain ⟨hbc, hbh, hbw⟩ := boxes2 (bth hb1 (bal w1 (.cells #[.int .i64 (a : Nat), .int .i64 (c : Nat)] 75))); obtain ⟨hk0, hk1, hf0, hf1⟩ := two_cf hbh))
    (try simp only [Exit.inBlock, Exit.then])
    exact ret_one rfl rfl rfl rfl (set2 hbh).1 (set2 hbh).2 rfl (below_set hbw (Nat.le_succ _) _ _)
end Go.Proofs.YtcadfaecoldcpaaDoor
