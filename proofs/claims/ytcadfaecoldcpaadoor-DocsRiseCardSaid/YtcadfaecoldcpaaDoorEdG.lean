/-
  THE WALKS of the document's answer of layer 6: ends, Apply. Conditions: stated at each.
-/
import Derived.Test.YtcadfaecoldcpaaDoorEdD
import Derived.Deep.QuietTactic
import Derived.BigQuiet
set_option linter.unusedVariables false
set_option linter.unusedSimpArgs false
namespace Go.Proofs.YtcadfaecoldcpaaDoor
open Go.RowKit Go.Lib Go.Shelf

/-- Three numbers. -/
def Post3 (p : Nat × Nat × Nat) (w : World) (e : Ending) (w' : World) : Prop := e = .returned (.tuple #[.int .i64 ((p.1 : Nat) : Int), .int .i64 ((p.2.1 : Nat) : Int), .int .i64 ((p.2.2 : Nat) : Int)]) ∧ Below w.heap.size w w'
/-- A block that a call begins with. -/
theorem boxes1 {w w' : World} {C : Array Value} {t : TypeId} (h : Below (w.alloc (.cells C t)).heap.size (w.alloc (.cells C t)) w') :
    (∀ k v, C[k]? = some v → w'.cell? ⟨w.heap.size, k, none⟩ = some v) ∧ Below w.heap.size w w' := ⟨fun k v hk => boxN h k hk, bth (bal w _) h⟩

set_option maxRecDepth 100000 in
set_option maxHeartbeats 1000000 in
theorem refEnds_any (s : ByteArray) (fl fu tl tu : Int) (t : ByteArray) (w : World) (hs : s.size ≤ 4194304) (ht : t.size ≤ 4194304) (hv : validD s.data.toList = true) :
    Calls Tryd.prog 44 #[.string s, .agg #[.int .i64 fl, .int .i64 fu, .int .i64 tl, .int .i64 tu, .string t]] w (Post3 (edFind s.data.toList ⟨fl, fu, tl, tu, t.data.toList⟩) w) := by
  have cT := fun w' => refRight_any t w' (by omega)
  cases hvt : validD t.data.toList with
  | false =>
    rw [hvt] at cT
    have HT := Lib.hid cT
    have e : edFind s.data.toList ⟨fl, fu, tl, tu, t.data.toList⟩ = (0, 0, 11) := by
      unfold edFind
      rw [if_neg (fun h => by have := h.2; simp only [hvt] at this; exact absurd this (by decide))]
    rw [e]
    clear cT e hvt hv
    go_enter Tryd.func44, Tryd.ntmps44
    go_wp2_with (go_at_call 33; refine (HT.out _).mono ?_; rintro e w1 ⟨rfl, hb1⟩; obtain ⟨hc, hb⟩ := boxes1 hb1)
    (try simp only [Exit.inBlock, Exit.then])
    go_ret3
    exact ⟨rfl, hb⟩
  | true =>
    rw [hvt] at cT
    have HT := Lib.hid cT
    obtain ⟨⟨a, ea⟩, ha⟩ : ∃ z, z = offP s.data.toList fl fu := ⟨_, rfl⟩
    obtain ⟨⟨c, ec⟩, hc⟩ : ∃ z, z = offP s.data.toList tl tu := ⟨_, rfl⟩
    have cA : ∀ w', Calls Tryd.prog 51 #[.string s, .agg #[.int .i64 fl, .int .i64 fu]] w' (Lit2 (a : Nat) (ea : Nat) w') := fun w' => (refOffset5_any s fl fu w' (by omega) hv).mono (post2_lit ha.symm)
    have cB : ∀ w', Calls Tryd.prog 51 #[.string s, .agg #[.int .i64 tl, .int .i64 tu]] w' (Lit2 (c : Nat) (ec : Nat) w') := fun w' => (refOffset5_any s tl tu w' (by omega) hv).mono (post2_lit hc.symm)
    have HA := Lib.hid cA
    have HB := Lib.hid cB
    have e : edFind s.data.toList ⟨fl, fu, tl, tu, t.data.toList⟩ = if ea = 0 ∧ ec = 0 then (if c < a then (0, 0, 61) else (a, c, 0)) else (0, 0, 51) := by
      unfold edFind
      rw [if_pos ⟨hv, hvt⟩]
      simp only [← ha, ← hc]
    rw [e]
    clear cT cA cB e hv hvt ha hc
    by_cases hab : ea = 0 ∧ ec = 0
    · rw [if_pos hab]
      obtain ⟨rfl, rfl⟩ := hab
      by_cases hlt : c < a
      · rw [if_pos hlt]
        have hz : (c : Int) < (a : Int) := by omega
        go_enter Tryd.func44, Tryd.ntmps44
        go_wp2_with (first
          | (go_at_call 51; (with_reducible refine (HB.out w2).mono ?_); rintro e w3 ⟨rfl, hb3⟩; replace hb3 := bth hb2 hb3)
          | (go_at_call 51; (with_reducible refine (HA.out w1).mono ?_); rintro e w2 ⟨rfl, hb2⟩; replace hb2 := bth hb1 hb2; obtain ⟨hd, hb2'⟩ := boxes1 hb2; have d0 := hd 0 _ rfl; have d1 := hd 1 _ rfl; have d2 := hd 2 _ rfl; have d3 := hd 3 _ rfl; have d4 := hd 4 _ rfl)
          | (go_at_call 33; refine (HT.out _).mono ?_; rintro e w1 ⟨rfl, hb1⟩; obtain ⟨hc, hb1'⟩ := boxes1 hb1; have c0 := hc 0 _ rfl; have c1 := hc 1 _ rfl; have c2 := hc 2 _ rfl; have c3 := hc 3 _ rfl; have c4 := hc 4 _ rfl))
        (try simp only [Exit.inBlock, Exit.then])
        go_ret3
        exact ⟨rfl, (boxes1 hb3).2⟩
      · rw [if_neg hlt]
        have hz : (a : Int) ≤ (c : Int) := by omega
        have hz' : decide (c < a) = false := decide_eq_false hlt
        go_enter Tryd.func44, Tryd.ntmps44
        go_wp2_with (first
          | (go_at_call 51; (with_reducible refine (HB.out w2).mono ?_); rintro e w3 ⟨rfl, hb3⟩; replace hb3 := bth hb2 hb3)
          | (go_at_call 51; (with_reducible refine (HA.out w1).mono ?_); rintro e w2 ⟨rfl, hb2⟩; replace hb2 := bth hb1 hb2; obtain ⟨hd, hb2'⟩ := boxes1 hb2; have d0 := hd 0 _ rfl; have d1 := hd 1 _ rfl; have d2 := hd 2 _ rfl; have d3 := hd 3 _ rfl; have d4 := hd 4 _ rfl)
          | (go_at_call 33; refine (HT.out _).mono ?_; rintro e w1 ⟨rfl, hb1⟩; obtain ⟨hc, hb1'⟩ := boxes1 hb1; have c0 := hc 0 _ rfl; have c1 := hc 1 _ rfl; have c2 := hc 2 _ rfl; have c3 := hc 3 _ rfl; have c4 := hc 4 _ rfl))
        (try simp only [Exit.inBlock, Exit.then])
        go_ret3
        exact ⟨rfl, (boxes1 hb3).2⟩
    · rw [if_neg hab]
      by_cases hea : ea = 0
      · subst hea
        have hec : ((ec : Int) == 0) = false := by
          rw [beq_eq_false_iff_ne]
          omega
        go_enter Tryd.func44, Tryd.ntmps44
        go_wp2_with (first
          | (go_at_call 51; (with_reducible refine (HB.out w2).mono ?_); rintro e w3 ⟨rfl, hb3⟩; replace hb3 := bth hb2 hb3)
          | (go_at_call 51; (with_reducible refine (HA.out w1).mono ?_); rintro e w2 ⟨rfl, hb2⟩; replace hb2 := bth hb1 hb2; obtain ⟨hd, hb2'⟩ := boxes1 hb2; have d0 := hd 0 _ rfl; have d1 := hd 1 _ rfl; have d2 := hd 2 _ rfl; have d3 := hd 3 _ rfl; have d4 := hd 4 _ rfl)
          | (go_at_call 33; refine (HT.out _).mono ?_; rintro e w1 ⟨rfl, hb1⟩; obtain ⟨hc, hb1'⟩ := boxes1 hb1; have c0 := hc 0 _ rfl; have c1 := hc 1 _ rfl; have c2 := hc 2 _ rfl; have c3 := hc 3 _ rfl; have c4 := hc 4 _ rfl))
        (try simp only [Exit.inBlock, Exit.then])
        go_ret3
        exact ⟨rfl, (boxes1 hb3).2⟩
      · have hea' : ((ea : Int) == 0) = false := by
          rw [beq_eq_false_iff_ne]
          omega
        go_enter Tryd.func44, Tryd.ntmps44
        go_wp2_with (first
          | (go_at_call 51; (with_reducible refine (HB.out w2).mono ?_); rintro e w3 ⟨rfl, hb3⟩; replace hb3 := bth hb2 hb3)
          | (go_at_call 51; (with_reducible refine (HA.out w1).mono ?_); rintro e w2 ⟨rfl, hb2⟩; replace hb2 := bth hb1 hb2; obtain ⟨hd, hb2'⟩ := boxes1 hb2; have d0 := hd 0 _ rfl; have d1 := hd 1 _ rfl; have d2 := hd 2 _ rfl; have d3 := hd 3 _ rfl; have d4 := hd 4 _ rfl)
          | (go_at_call 33; refine (HT.out _).mono ?_; rintro e w1 ⟨rfl, hb1⟩; obtain ⟨hc, hb1'⟩ := boxes1 hb1; have c0 := hc 0 _ rfl; have c1 := hc 1 _ rfl; have c2 := hc 2 _ rfl; have c3 := hc 3 _ rfl; have c4 := hc 4 _ rfl))
        (try simp only [Exit.inBlock, Exit.then])
        go_ret3
        exact ⟨rfl, (boxes1 hb3).2⟩

set_option maxRecDepth 100000 in
set_option maxHeartbeats 1000000 in
theorem refApply_any (s : ByteArray) (A : Option Addr) (c : Nat) (l : List EdV) (w : World) (hs : s.size ≤ 4194304) (hl : l.length ≤ 1048576) (hok : ∀ e ∈ l, e.Ok) (hr : RdE w A l) :
    Calls Tryd.prog 36 #[.string s, .slice A l.length c] w (ApPost (applyL s.data.toList (l.map EdV.l)) w) := by
  have cR := refRight_any s w (by omega)
  by_cases hv : validD s.data.toList = true
  · rw [hv] at cR
    have e : applyL s.data.toList (l.map EdV.l) = applyGo s.data.toList (l.map EdV.l) := by unfold applyL; rw [if_pos hv]
    rw [e]
    have HR := Lib.hid hr
    have HOK := Lib.hid hok
    have HV := Lib.hid hv
    clear hr hok e hv
    go_enter Tryd.func36, Tryd.ntmps36
    go_wp2_with (go_at_call 33; refine cR.mono ?_; rintro e w1 ⟨rfl, hb1⟩)
    go_loopw [0, 7] (fun a b wr => ∃ (cur : ByteArray) (i : Nat), a = .string cur ∧ b = .int .i64 i ∧ i ≤ l.length ∧ cur.size ≤ 4194304 ∧ Below w.heap.size w wr ∧ Hid (validD cur.data.toList = true) ∧ applyGo s.data.toList (l.map EdV.l) = applyGo cur.data.toList ((l.drop i).map EdV.l)) (fun _ b _ => l.length - (RowKit.intOf b).toNat)
    case atStart => exact ⟨s, 0, rfl, rfl, Nat.zero_le _, hs, hb1, HV.out, rfl⟩
    case round =>
      obtain ⟨cur, i, rfl, rfl, hi, hcs, hbr, hvc, hap⟩ := hrel
      by_cases hin : i < l.length
      · have hiz : (i : Int) < (l.length : Int) := by omega
        obtain ⟨g, o, hA, hlt, c0, c1, c2, c3, c4⟩ := HR.out.below hbr i hin
        subst hA
        have hd : l.drop i = l[i] :: l.drop (i + 1) := List.drop_eq_getElem_cons hin
        have hoki := HOK.out (l[i]) (List.getElem_mem hin)
        have hm : (l.drop i).map EdV.l = (l[i]).l :: (l.drop (i + 1)).map EdV.l := by rw [hd, List.map_cons]
        rw [hm] at hap
        obtain ⟨⟨p, q, er⟩, hp⟩ : ∃ z, z = edFind cur.data.toList (l[i]).l := ⟨_, rfl⟩
        have cO : ∀ w', Calls Tryd.prog 44 #[.string cur, .agg #[.int .i64 (l[i]).fl, .int .i64 (l[i]).fu, .int .i64 (l[i]).tl, .int .i64 (l[i]).tu, .string (l[i]).t]] w' (Post3 (p, q, er) w') := fun w' => by
          rw [hp]
          exact refEnds_any cur (l[i]).fl (l[i]).fu (l[i]).tl (l[i]).tu (l[i]).t w' hcs hoki.t hvc.out
        have HO := Lib.hid cO
        have ht := hoki.t
        by_cases h1 : er = 0
        · subst h1
          have h1 : (edFind cur.data.toList (l[i]).l).2.2 = 0 := by rw [← hp]
          obtain ⟨_, hvt, hoa, hoc, hpq⟩ := edFind_ok h1
          have hqs := edFind_le h1
          rw [← size_eq, ← hp] at hqs
          rw [← hp] at hpq
          simp only at hpq hqs
          have eO : edOne cur.data.toList (l[i]).l = if 16384 + (q - p) < cur.size + (l[i]).t.size then ([], 0, 0, 73) else (edText cur.data.toList (l[i]).t.data.toList p q, p, q, 0) := by
            unfold edOne
            rw [if_pos h1, ← hp, size_eq cur, size_eq (l[i]).t]
            rfl
          have hpz : (p : Int) ≤ (q : Int) := by omega
          have hqz : (q : Int) ≤ (cur.size : Int) := by omega
          have hpz2 : (p : Int) ≤ (cur.size : Int) := by omega
          have hsz : (cur.extract 0 p ++ (l[i]).t ++ cur.extract q cur.size).size = p + (l[i]).t.size + (cur.size - q) := by
            rw [cat_size, cat_size, ByteArray.size_extract, ByteArray.size_extract]
            omega
          by_cases hlen : 16384 + (q - p) < cur.size + (l[i]).t.size
          · rw [if_pos hlen] at eO
            rw [applyGo_no (by rw [eO]; simp), eO] at hap
            have HAP := Lib.hid hap
            have hz : (16384 : Int) < ((cur.extract 0 p ++ (l[i]).t ++ cur.extract q cur.size).size : Int) := by omega
            clear cO hd hap hm hp h1 eO hvt hoa hoc hoki hsz
            go_wp2_with (go_at_call 44; refine (HO.out _).mono ?_; rintro e w2 ⟨rfl, hb2⟩; have c4' := (hb2.cell (p := ⟨g, o + i * 5 + 4, none⟩) hlt).trans c4)
            go_quiet (fail)
            go_wp2
            rw [HAP.out]
            (try simp only [Exit.inBlock, Exit.then])
            go_ret2
            exact ⟨⟨#[]⟩, rfl, rfl, (bth hbr hb2).trans ⟨rfl, rfl, rfl, Nat.le_refl _, fun _ _ => rfl⟩⟩
          · rw [if_neg hlen] at eO
            have hE0 : (edOne cur.data.toList (l[i]).l).2.2.2 = 0 := by rw [eO]
            rw [applyGo_ok hE0] at hap
            have hnv := edOne_right hE0
            obtain ⟨nx, hnx⟩ : ∃ nx, nx = cur.extract 0 p ++ (l[i]).t ++ cur.extract q cur.size := ⟨_, rfl⟩
            have eB : (edOne cur.data.toList (l[i]).l).1 = nx.data.toList := by
              rw [eO, hnx, cat_data, cat_data, ext_zero, ext_take]
              rfl
            rw [eB] at hap hnv
            rw [← hnx] at hsz
            have HAP := Lib.hid hap
            have HNV := Lib.hid hnv
            have hz0 : nx.size ≤ 16384 := by omega
            have hz : (nx.size : Int) ≤ 16384 := by omega
            have hnx' : cur.extract 0 p ++ (l[i]).t ++ cur.extract q cur.size = nx := hnx.symm
            clear cO hd hap hm hp h1 eO hvt hoa hoc hoki hsz hE0 hnv eB hnx
            go_wp2_with (go_at_call 44; refine (HO.out _).mono ?_; rintro e w2 ⟨rfl, hb2⟩; have c4' := (hb2.cell (p := ⟨g, o + i * 5 + 4, none⟩) hlt).trans c4)
            go_quiet (fail)
            go_wp2
            go_roundw
            case rel => exact ⟨nx, i + 1, rfl, by go_num, by omega, by omega, (bth hbr hb2).trans ⟨rfl, rfl, rfl, Nat.le_refl _, fun _ _ => rfl⟩, HNV.out, HAP.out⟩
            case measure => simp [RowKit.intOf]; omega
        · have her : ((er : Int) == 0) = false := by
            rw [beq_eq_false_iff_ne]
            omega
          have h2 : edOne cur.data.toList (l[i]).l = ([], 0, 0, er) := by
            unfold edOne
            rw [← hp, if_neg h1]
          rw [applyGo_no (by rw [h2]; exact h1), h2] at hap
          have HAP := Lib.hid hap
          clear cO hd hap hm hp h1 h2 hoki
          go_wp2_with (go_at_call 44; refine (HO.out _).mono ?_; rintro e w2 ⟨rfl, hb2⟩)
          rw [HAP.out]
          (try simp only [Exit.inBlock, Exit.then])
          go_ret2
          exact ⟨⟨#[]⟩, rfl, rfl, bth hbr hb2⟩
      · have hie : i = l.length := by omega
        subst hie
        rw [List.drop_length, List.map_nil] at hap
        have HAP := Lib.hid hap
        clear hap
        go_wp2
        rw [HAP.out]
        go_ret2
        exact ⟨cur, rfl, rfl, hbr⟩
  · have e : applyL s.data.toList (l.map EdV.l) = ([], 11) := by unfold applyL; rw [if_neg hv]
    rw [e]
    rw [show validD s.data.toList = false by simpa using hv] at cR
    clear hr hok e hv
    go_enter Tryd.func36, Tryd.ntmps36
    go_wp2_with (go_at_call 33; refine cR.mono ?_; rintro e w1 ⟨rfl, hb1⟩)
    (try simp only [Exit.inBlock, Exit.then])
    go_ret2
    exact ⟨⟨#[]⟩, rfl, rfl, hb1⟩
end Go.Proofs.YtcadfaecoldcpaaDoor
