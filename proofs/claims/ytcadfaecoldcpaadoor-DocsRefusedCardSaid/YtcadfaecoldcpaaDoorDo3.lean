/-
  THE WALKS of package docs: New, named, holds, Open. Conditions: stated at each.
-/
import Derived.Test.YtcadfaecoldcpaaDoorDo2
import Derived.Test.YtcadfaecoldcpaaDoorEdJ
import Derived.RegionTactic
import Derived.BigRegion
import Derived.Deep.QuietTactic
import Derived.BigQuiet
import Derived.Deep.CutBlock
import Derived.Deep.DeepCutAuto
set_option linter.unusedVariables false
set_option linter.unusedSimpArgs false
namespace Go.Proofs.YtcadfaecoldcpaaDoor
open Go.RowKit Go.Lib Go.Shelf Go.Maps

/-- A number. -/
def NumPost (k : Nat) (w : World) (e : Ending) (w' : World) : Prop := e = .returned (.int .i64 (k : Nat)) ∧ Below w.heap.size w w'
theorem empty_iff (s : ByteArray) : (s.toList == ([] : List UInt8)) = decide (s.size = 0) := by
  by_cases h : s.size = 0
  · have e : s = ⟨#[]⟩ := data_inj (List.length_eq_zero_iff.1 (by rw [← Lib.size_eq]; exact h))
    rw [e]
    simp
    rfl
  · rw [decide_eq_false h]
    have := str_ne s ⟨#[]⟩ (fun e => h (by rw [e]; rfl))
    simpa using this

set_option maxRecDepth 100000 in
theorem named_any (s : ByteArray) (w : World) (hs : s.size ≤ 140737488355328) (hT : Tabs w) :
    Calls Tryd.prog 26 #[.string s] w (BoolPost (decide (namedL s.data.toList)) w) := by
  have cR := right_any s w (by omega) hT
  have hq := empty_iff s
  have hl := Lib.size_eq s
  by_cases h1 : s.size = 0
  · have hN : decide (namedL s.data.toList) = false := decide_eq_false fun h => by have := h.2.1; omega
    rw [hN]
    rw [decide_eq_true h1] at hq
    clear cR hl h1 hN
    go_enter Tryd.func26, Tryd.ntmps26
    go_wp2
    go_ret
    exact ⟨rfl, Below.refl _ _⟩
  · rw [decide_eq_false h1] at hq
    by_cases h2 : s.size ≤ 40
    · have h2z : (s.size : Int) ≤ 40 := by omega
      have hN : decide (namedL s.data.toList) = validD s.data.toList := by
        cases hv : validD s.data.toList with
        | true => exact decide_eq_true ⟨hv, by omega, by omega⟩
        | false => exact decide_eq_false fun h => by have := h.1; rw [hv] at this; cases this
      rw [hN]
      clear hl hN
      go_enter Tryd.func26, Tryd.ntmps26
      go_wp2_with (go_at_call 41; refine cR.mono ?_; rintro e w1 ⟨rfl, hb1⟩)
      go_ret
      exact ⟨rfl, hb1⟩
    · have h2z : decide ((s.size : Int) ≤ 40) = false := decide_eq_false (by omega)
      have hN : decide (namedL s.data.toList) = false := decide_eq_false fun h => by have := h.2.2; omega
      rw [hN]
      clear cR hl hN
      go_enter Tryd.func26, Tryd.ntmps26
      go_wp2
      go_ret
      exact ⟨rfl, Below.refl _ _⟩
set_option maxRecDepth 100000 in
theorem holds_any (s : ByteArray) (w : World) (hs : s.size ≤ 140737488355328) (hT : Tabs w) :
    Calls Tryd.prog 27 #[.string s] w (NumPost (holdsL s.data.toList) w) := by
  have cR := right_any s w (by omega) hT
  have hl := Lib.size_eq s
  unfold holdsL
  cases hv : validD s.data.toList with
  | false =>
    rw [hv] at cR
    rw [if_neg (by decide)]
    clear hl hv
    go_enter Tryd.func27, Tryd.ntmps27
    go_wp2_with (go_at_call 41; refine cR.mono ?_; rintro e w1 ⟨rfl, hb1⟩)
    go_ret
    exact ⟨rfl, hb1⟩
  | true =>
    rw [hv] at cR
    rw [if_pos rfl, ← hl]
    by_cases h : 16384 < s.size
    · rw [if_pos h]
      have hz : (16384 : Int) < (s.size : Int) := by omega
      clear hl hv
      go_enter Tryd.func27, Tryd.ntmps27
      go_wp2_with (go_at_call 41; refine cR.mono ?_; rintro e w1 ⟨rfl, hb1⟩)
      go_ret
      exact ⟨rfl, hb1⟩
    · rw [if_neg h]
      have hz : (s.size : Int) ≤ 16384 := by omega
      clear hl hv
      go_enter Tryd.func27, Tryd.ntmps27
      go_wp2_with (go_at_call 41; refine cR.mono ?_; rintro e w1 ⟨rfl, hb1⟩)
      go_ret
      exact ⟨rfl, hb1⟩

set_option maxRecDepth 100000 in
theorem docsNew_any (w : World) :
    Calls Tryd.prog 7 #[] w (fun e w' => ∃ b mb, e = .returned (.pointer (some ⟨b, 0, none⟩)) ∧ St w' b mb [] ∧ w.heap.size ≤ b ∧ w.heap.size ≤ mb ∧ Below w.heap.size w w') := by
  have hmm := @run_makeMap Tryd.prog
  go_enter Tryd.func7, Tryd.ntmps7
  go_wp2
  go_ret
  refine ⟨w.heap.size + 1, w.heap.size, rfl, ⟨?_, (World.ownsMap_made w Tryd.prog 9 docElem).alloc _, List.Pairwise.nil, Nat.zero_le _, fun d hd => (by cases hd)⟩, by omega, Nat.le_refl _, bth (bal w _) (bal _ _)⟩
  have := heap_alloc_new (w.alloc (.map #[] 0)) (.cells #[.map (some w.heap.size)] 52)
  rw [World.size_alloc] at this
  exact this

/-- What a store's act answers; the map's block alone has turned. -/
def ActPost (r : List DocL × Nat) (b mb : Nat) (w : World) (e : Ending) (w' : World) : Prop := e = .returned (.int .i64 (r.2 : Nat)) ∧ St w' b mb r.1 ∧ w.grownBy w' (some mb)
theorem box3 {w w' : World} {v0 v1 v2 : Value} {t : TypeId} (h : Below (w.alloc (.cells #[v0, v1, v2] t)).heap.size (w.alloc (.cells #[v0, v1, v2] t)) w') :
    w'.cell? ⟨w.heap.size, 0, none⟩ = some v0 ∧ w'.cell? ⟨w.heap.size, 1, none⟩ = some v1 ∧ w'.cell? ⟨w.heap.size, 2, none⟩ = some v2 ∧ Below w.heap.size w w' := ⟨boxN h 0 rfl, boxN h 1 rfl, boxN h 2 rfl, bth (bal w _) h⟩

set_option maxRecDepth 100000 in
set_option maxHeartbeats 1000000 in
theorem docsOpen_any (b mb : Nat) (L : List DocL) (d : DocV) (w : World) (h : St w b mb L) (hn : d.n.size ≤ 4194304) (ht : d.t.size ≤ 4194304) (hE : Env w) :
    Calls Tryd.prog 12 #[.pointer (some ⟨b, 0, none⟩), .agg #[.string d.n, .int .i64 d.v, .string d.t]] w (ActPost (openL L d.l) b mb w) := by
  obtain ⟨n, v, t⟩ := d
  replace hn : n.size ≤ 4194304 := hn
  replace ht : t.size ≤ 4194304 := ht
  have cN := fun w' hT => named_any n w' (by omega) hT
  have cH := fun w' hT => holds_any t w' (by omega) hT
  have HE := Lib.hid hE
  have HS := Lib.hid h
  by_cases h1 : namedL n.data.toList
  · rw [decide_eq_true h1] at cN
    obtain ⟨k, hk⟩ : ∃ k, k = holdsL t.data.toList := ⟨_, rfl⟩
    rw [← hk] at cH
    · have hlk : ∀ w', MapIs w' mb L → _ := fun w' hm => map_look hm n (by omega)
      obtain ⟨⟨gn, gv, gt⟩, hg⟩ : ∃ g, g = (getL L n.data.toList).vv := ⟨_, rfl⟩
      rw [← hg] at hlk
      have hlk' : ∀ w', MapIs w' mb L → (Instr.lookup 50 (.map (some mb)) (.string n) true).run Tryd.prog w' = .ok (.tuple #[.agg #[.string gn, .int .i64 gv, .string gt], .bool (hasL L n.data.toList)]) w' := hlk
      have hln : ∀ w' ty, MapIs w' mb L → _ := fun w' ty hm => map_len hm ty
      have HLK := Lib.hid hlk'
      have HLN := Lib.hid hln
      have HN := Lib.hid cN
      have HH := Lib.hid cH
      clear cN cH hlk hlk' hln hg hE h
      have HP := Lib.hid fun w' (hm : MapIs w' mb L) (hL : L.length ≤ 140737488355328) => map_put hm ⟨n, v, t⟩ (Nat.le_trans hn (by decide)) hL
      have H1 := Lib.hid h1
      have HK := Lib.hid hk
      clear h1 hk
      go_enter Tryd.func12, Tryd.ntmps12
      go_upto_region 4 with (first
        | (go_at_call 26; refine (HN.out _ (HE.out.below (bal w _)).1).mono ?_; rintro e w1 ⟨rfl, hb1⟩; obtain ⟨k0, k1, k2, hw1⟩ := box3 hb1)
        | (go_at_call 27; refine (HH.out _ (HE.out.below hw1).1).mono ?_; rintro e w2 ⟨rfl, hb2⟩; replace hb2 := bth hb1 hb2; obtain ⟨m0, m1, m2, hw2⟩ := box3 hb2; have hS2 := HS.out.below hw2; have hc2 := hS2.cell; have hl2 := HLK.out w2.drew hS2.map; have hS3 := hS2.below (bal w2 (.cells #[.string ⟨#[]⟩, .int .i64 0, .string ⟨#[]⟩] 24)); have hb3 := bth hb2 (bal w2 (.cells #[.string ⟨#[]⟩, .int .i64 0, .string ⟨#[]⟩] 24)); obtain ⟨p0, p1, p2, _⟩ := box3 hb3; have q0 : (w2.alloc (.cells #[.string ⟨#[]⟩, .int .i64 0, .string ⟨#[]⟩] 24)).drew.cell? ⟨w.heap.size, 0, none⟩ = some (.string n) := p0; have q3 : (w2.alloc (.cells #[.string ⟨#[]⟩, .int .i64 0, .string ⟨#[]⟩] 24)).drew.cell? ⟨b, 0, none⟩ = some (.map (some mb)) := hS3.cell; have hl3 := HLK.out (w2.alloc (.cells #[.string ⟨#[]⟩, .int .i64 0, .string ⟨#[]⟩] 24)).drew hS3.map; clear hb1))
      go_cut [6, 7] (fun u6 u7 wx => u6 = .pointer (some ⟨w2.heap.size, 0, none⟩) ∧ u7 = .bool (hasL L n.data.toList) ∧ wx = (w2.alloc (.cells #[.string gn, .int .i64 gv, .string gt] 24)).drew)
      case first =>
        go_region
        all_goals (go_wp2_with fail; go_meet; exact ⟨rfl, rfl, rfl⟩)
      case rest =>
        obtain ⟨rfl, rfl, rfl⟩ := hcut
        clear p0 p1 p2 q0 q3 hl2 hl3 hS3 hb3 m0 m1 m2 hc2
        have hb4 := bth hb2 (bal w2 (.cells #[.string gn, .int .i64 gv, .string gt] 24))
        obtain ⟨p0, p1, p2, hw4⟩ := box3 hb4
        have hS4 := hS2.below (bal w2 (.cells #[.string gn, .int .i64 gv, .string gt] 24))
        generalize (w2.alloc (.cells #[.string gn, .int .i64 gv, .string gt] 24)) = W at hb4 p0 p1 p2 hw4 hS4 ⊢
        have hS5 : St W.drew b mb L := hS4.below (Below.refl _ W).drew
        have c3 : W.drew.cell? ⟨b, 0, none⟩ = some (.map (some mb)) := hS5.cell
        have hw5 : Below w.heap.size w W.drew := hw4.drew
        have ln := HLN.out W.drew 3 hS5.map
        have q0 : W.drew.cell? ⟨w.heap.size, 0, none⟩ = some (.string n) := p0
        have q1 : W.drew.cell? ⟨w.heap.size, 1, none⟩ = some (.int .i64 v) := p1
        have q2 : W.drew.cell? ⟨w.heap.size, 2, none⟩ = some (.string t) := p2
        have H5 := Lib.hid hS5
        clear hS5 hS4 p0 p1 p2 hb4 hS2 hb2 hw2 hw4
        generalize W.drew = W at c3 hw5 ln q0 q1 q2 H5 ⊢
        by_cases hk0 : k = 0
        · subst hk0
          have H2 := Lib.hid HK.out.symm
          by_cases h3 : 8 ≤ L.length
          · have e : openL L ⟨n.data.toList, v, t.data.toList⟩ = (L, 73) := by
              unfold openL
              rw [if_pos H1.out, if_pos H2.out, if_pos h3]
            have h3z : (8 : Int) ≤ (L.length : Int) := by omega
            have EE := Lib.hid e
            clear e h3
            go_wp2
            show bodyPost _ _ (ActPost (openL L ⟨n.data.toList, v, t.data.toList⟩) b mb w) _ _ _
            rw [EE.out]
            (try simp only [Exit.inBlock, Exit.then])
            go_ret
            exact ⟨rfl, H5.out, below_grown hw5 _⟩
          · have h3z : (L.length : Int) < 8 := by omega
            cases h4 : hasL L n.data.toList with
            | true =>
              have e : openL L ⟨n.data.toList, v, t.data.toList⟩ = (L, 74) := by
                unfold openL
                rw [if_pos H1.out, if_pos H2.out, if_neg h3]
                simp only
                rw [if_pos h4]
              have EE := Lib.hid e
              clear e h3 h4
              go_wp2
              show bodyPost _ _ (ActPost (openL L ⟨n.data.toList, v, t.data.toList⟩) b mb w) _ _ _
              rw [EE.out]
              (try simp only [Exit.inBlock, Exit.then])
              go_ret
              exact ⟨rfl, H5.out, below_grown hw5 _⟩
            | false =>
              have e : openL L ⟨n.data.toList, v, t.data.toList⟩ = (insL ⟨n.data.toList, v, t.data.toList⟩ L, 0) := by
                unfold openL
                rw [if_pos H1.out, if_pos H2.out, if_neg h3]
                simp only
                rw [if_neg (by rw [h4]; simp)]
              have hrise := insL_rise (d := ⟨n.data.toList, v, t.data.toList⟩) H5.out.rise h4
              have hdrop := dropL_none h4
              have hlen := insL_length ⟨n.data.toList, v, t.data.toList⟩ L
              obtain ⟨w6, hput, hm6, hg6⟩ := HP.out W.drew H5.out.map (by omega)
              have hput' : (Instr.mapUpdate 50 (.map (some mb)) (.string n) (.agg #[.string n, .int .i64 v, .string t])).run Tryd.prog W.drew = .ok () w6 := hput
              have hokd : DocOk ⟨n.data.toList, v, t.data.toList⟩ := ⟨H1.out.2.2, by
                have := H2.out
                unfold holdsL at this
                split at this
                · split at this
                  · cases this
                  · simp only
                    omega
                · cases this⟩
              have EE := Lib.hid e
              have HR := Lib.hid hrise
              have HD := Lib.hid hdrop
              have HM := Lib.hid hm6
              have HL := Lib.hid hlen
              clear e h4 hput hrise hdrop hm6 hlen
              go_wp2_with fail
              go_region
              all_goals go_wp2
              all_goals
                show bodyPost _ _ (ActPost (openL L ⟨n.data.toList, v, t.data.toList⟩) b mb w) _ _ _
                rw [EE.out]
                (try simp only [Exit.inBlock, Exit.then])
                go_ret
                refine ⟨rfl, ⟨(hg6.block b H5.out.lt (fun e => H5.out.ne (Option.some.inj e))).trans H5.out.box, ?_, HR.out, by rw [HL.out]; omega, fun x hx => ?_⟩, (below_grown hw5.drew _).trans hg6⟩
                · have h6 := HM.out
                  have e2 : dropL L (DocV.l ⟨n, v, t⟩).n = L := HD.out
                  rw [e2] at h6
                  exact h6
                · rcases insL_mem.1 hx with rfl | hx
                  · exact hokd
                  · exact H5.out.ok x hx
        · have hkz : ((k : Int) == 0) = false := by
            rw [beq_eq_false_iff_ne]
            omega
          have e : openL L ⟨n.data.toList, v, t.data.toList⟩ = (L, k) := by
            unfold openL
            rw [if_pos H1.out]
            simp only
            rw [← HK.out, if_neg hk0]
          have EE := Lib.hid e
          clear e hk0
          go_wp2
          show bodyPost _ _ (ActPost (openL L ⟨n.data.toList, v, t.data.toList⟩) b mb w) _ _ _
          rw [EE.out]
          (try simp only [Exit.inBlock, Exit.then])
          go_ret
          exact ⟨rfl, H5.out, below_grown hw5 _⟩
  · rw [decide_eq_false h1] at cN
    have HN := Lib.hid cN
    have e : openL L ⟨n.data.toList, v, t.data.toList⟩ = (L, 1) := by
      unfold openL
      rw [if_neg h1]
    show Calls _ _ _ _ (ActPost (openL L ⟨n.data.toList, v, t.data.toList⟩) b mb w)
    rw [e]
    clear cN cH h1 e hE h
    go_enter Tryd.func12, Tryd.ntmps12
    go_wp2_with (go_at_call 26; refine (HN.out _ (HE.out.below (bal w _)).1).mono ?_; rintro e w1 ⟨rfl, hb1⟩; obtain ⟨k0, k1, k2, hw1⟩ := box3 hb1)
    (try simp only [Exit.inBlock, Exit.then])
    go_ret
    exact ⟨rfl, HS.out.below hw1, below_grown hw1 _⟩
end Go.Proofs.YtcadfaecoldcpaaDoor
