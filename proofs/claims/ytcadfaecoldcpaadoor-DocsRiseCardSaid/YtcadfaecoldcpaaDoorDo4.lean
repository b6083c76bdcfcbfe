/-
  THE WALKS of package docs: become, Change, Whole, Close. Conditions: stated at each.
-/
import Derived.Test.YtcadfaecoldcpaaDoorDo3
import Derived.Test.YtcadfaecoldcpaaDoorEdO
import Derived.Deep.RegionHeld3
import Derived.Deep.DrawnRows
set_option linter.unusedVariables false
set_option linter.unusedSimpArgs false
namespace Go.Proofs.YtcadfaecoldcpaaDoor
open Go.RowKit Go.Lib Go.Shelf Go.Maps
attribute [local go_sem ↓] Go.wp_at_zero Go.wp_at_succ

theorem lt_cellD {w : World} {a : Addr} {v : Value} (h : w.cell? a = some v) : a.block < w.heap.size := by
  unfold World.cell? at h
  split at h
  · rename_i hh
    exact (Array.getElem?_eq_some_iff.1 hh).1
  · cases h
/-- A text, and the error. -/
def TextPost (p : List UInt8 × Nat) (w : World) (e : Ending) (w' : World) : Prop := e = .returned (.tuple #[.string ⟨p.1.toArray⟩, .int .i64 ((p.2 : Nat) : Int)]) ∧ Below w.heap.size w w'
theorem getL_some {L : List DocL} {n : List UInt8} {d : DocL} (h : findL L n = some d) : getL L n = d := by unfold getL; rw [h]; rfl
theorem vv_size (d : DocL) : d.vv.n.size = d.n.length ∧ d.vv.t.size = d.t.length := ⟨by rw [Lib.size_eq]; rfl, by rw [Lib.size_eq]; rfl⟩

set_option maxRecDepth 100000 in
set_option maxHeartbeats 1000000 in
/-- 'become' at a function value g that captures one variable. -/
theorem become_any (b mb : Nat) (L : List DocL) (n : ByteArray) (v : Int) (g : Nat) (cp : Array Value) (f : List UInt8 → List UInt8 × Nat) (w : World) (h : St w b mb L) (hn : n.size ≤ 4194304) (hE : Env w)
    (hen : ∀ args W, (callFunc g args).run Tryd.prog W = .ok (.enter g args) W)
    (hf : ∀ (t : ByteArray) w', t.size ≤ 16384 → Below w.heap.size w w' → Env w' → Calls Tryd.prog g (#[.string t] ++ cp) w' (TextPost (f t.data.toList) w'))
    (hfl : ∀ t, t.length ≤ 16384 → (f t).2 = 0 → (f t).1.length ≤ 16384) :
    Calls Tryd.prog 28 #[.pointer (some ⟨b, 0, none⟩), .string n, .int .i64 v, .func (.func g) #[] cp] w (ActPost (becomeL L n.data.toList v f) b mb w) := by
  have HE := Lib.hid hE
  have HS := Lib.hid h
  have hlk := map_look h.map n (by omega)
  cases hfd : findL L n.data.toList with
  | none =>
    have hh : hasL L n.data.toList = false := by rw [findL_has, hfd]; rfl
    have e : becomeL L n.data.toList v f = (L, 72) := by unfold becomeL; rw [hfd]
    rw [e]
    obtain ⟨⟨gn, gv, gt⟩, hg⟩ : ∃ g, g = (getL L n.data.toList).vv := ⟨_, rfl⟩
    rw [← hg, hh] at hlk
    have hlk' : (Instr.lookup 50 (.map (some mb)) (.string n) true).run Tryd.prog w = .ok (.tuple #[.agg #[.string gn, .int .i64 gv, .string gt], .bool false]) w := hlk
    have hc := h.cell
    clear hlk hg hh hfd e hE h hf hfl hen
    go_enter Tryd.func28, Tryd.ntmps28
    go_wp2
    (try simp only [Exit.inBlock, Exit.then])
    go_ret
    exact ⟨rfl, HS.out.below (bal w _), below_grown (bal w _) _⟩
  | some d =>
    have hh : hasL L n.data.toList = true := by rw [findL_has, hfd]; rfl
    obtain ⟨hd1, hd2⟩ := findL_some hfd
    have hdok := h.ok d hd1
    have e : becomeL L n.data.toList v f = if v ≤ d.v then (L, 71) else if (f d.t).2 = 0 then (putL L ⟨n.data.toList, v, (f d.t).1⟩, 0) else (L, (f d.t).2) := by unfold becomeL; rw [hfd]
    rw [e]
    rw [getL_some hfd, hh] at hlk
    obtain ⟨dn, dv, dt⟩ := d
    have hlk' : (Instr.lookup 50 (.map (some mb)) (.string n) true).run Tryd.prog w = .ok (.tuple #[.agg #[.string ⟨dn.toArray⟩, .int .i64 dv, .string ⟨dt.toArray⟩], .bool true]) w := hlk
    have hc := h.cell
    simp only at hd2 hdok
    by_cases hv : v ≤ dv
    · rw [if_pos hv]
      clear hlk hh hfd e hE h hf hfl hd1 hd2 hen hdok
      go_enter Tryd.func28, Tryd.ntmps28
      go_wp2
      (try simp only [Exit.inBlock, Exit.then])
      go_ret
      exact ⟨rfl, HS.out.below (bal w _), below_grown (bal w _) _⟩
    · rw [if_neg hv]
      have hvz : dv < v := by omega
      have hdt : (⟨dt.toArray⟩ : ByteArray).size ≤ 16384 := by
        rw [Lib.size_eq]
        exact hdok.t
      have cF := hf ⟨dt.toArray⟩ (w.alloc (.cells #[.string ⟨dn.toArray⟩, .int .i64 dv, .string ⟨dt.toArray⟩] 24)) hdt (bal w _) (hE.below (bal w _))
      obtain ⟨⟨x, er⟩, hx⟩ : ∃ z, z = f dt := ⟨_, rfl⟩
      have cF' : Calls Tryd.prog g (#[.string ⟨dt.toArray⟩] ++ cp) (w.alloc (.cells #[.string ⟨dn.toArray⟩, .int .i64 dv, .string ⟨dt.toArray⟩] 24)) (TextPost (x, er) (w.alloc (.cells #[.string ⟨dn.toArray⟩, .int .i64 dv, .string ⟨dt.toArray⟩] 24))) := by
        rw [hx]
        exact cF
      rw [← hx]
      have HF := Lib.hid cF'
      have HD2 := Lib.hid hd2
      have HFL := Lib.hid (hfl dt hdok.t)
      have HX := Lib.hid hx
      have HH := Lib.hid hh
      clear hlk hh hfd e hE h hf hfl hd1 hd2 hdok cF cF' hx hv
      have hvz2 : decide (v ≤ dv) = false := decide_eq_false (by omega)
      clear hvz
      by_cases her : er = 0
      · subst her
        rw [if_pos rfl]
        have HP := Lib.hid fun w' (hm : MapIs w' mb L) => map_put hm ⟨n, v, ⟨x.toArray⟩⟩ (Nat.le_trans hn (by decide)) (Nat.le_trans HS.out.len (by decide))
        go_enter Tryd.func28, Tryd.ntmps28
        go_wp2_with fail
        refine HF.out.mono ?_
        rintro e w2 ⟨rfl, hb2⟩
        obtain ⟨k0, k1, k2, hw2⟩ := box3 hb2
        have hS2 := HS.out.below hw2
        have hc2 := hS2.cell
        obtain ⟨w6, hput, hm6, hg6⟩ := HP.out w2 hS2.map
        have hput' : (Instr.mapUpdate 50 (.map (some mb)) (.string n) (.agg #[.string n, .int .i64 v, .string ⟨x.toArray⟩])).run Tryd.prog w2 = .ok () w6 := hput
        have HM := Lib.hid hm6
        have H2 := Lib.hid hS2
        clear hput hm6 hS2 hlk' hc
        go_wp2
        (try simp only [Exit.inBlock, Exit.then])
        go_ret
        have e1 : insL (DocV.l ⟨n, v, ⟨x.toArray⟩⟩) (dropL L (DocV.l ⟨n, v, ⟨x.toArray⟩⟩).n) = putL L ⟨n.data.toList, v, x⟩ := ins_drop (d := ⟨n.data.toList, v, x⟩) H2.out.rise HH.out
        refine ⟨rfl, ⟨(hg6.block b H2.out.lt (fun e => H2.out.ne (Option.some.inj e))).trans H2.out.box, ?_, putL_rise H2.out.rise _, ?_, fun y hy => ?_⟩, (below_grown hw2 _).trans hg6⟩
        · have h6 := HM.out
          rw [e1] at h6
          exact h6
        · show (putL L ⟨n.data.toList, v, x⟩).length ≤ 8
          rw [putL_length]
          exact H2.out.len
        · obtain ⟨z, hz, rfl⟩ := List.mem_map.1 hy
          split
          · refine ⟨?_, ?_⟩
            · show n.data.toList.length ≤ 40
              obtain ⟨d2, hd2, he2⟩ := hasL_iff.1 HH.out
              rw [← he2]
              exact (H2.out.ok d2 hd2).n
            · show x.length ≤ 16384
              have := HFL.out
              rw [← HX.out] at this
              exact this rfl
          · exact H2.out.ok z hz
      · rw [if_neg her]
        have herz : ((er : Int) == 0) = false := by
          rw [beq_eq_false_iff_ne]
          omega
        clear her
        go_enter Tryd.func28, Tryd.ntmps28
        go_wp2_with fail
        refine HF.out.mono ?_
        rintro e w2 ⟨rfl, hb2⟩
        obtain ⟨k0, k1, k2, hw2⟩ := box3 hb2
        clear hlk' hc
        go_wp2
        (try simp only [Exit.inBlock, Exit.then])
        go_ret
        exact ⟨rfl, HS.out.below hw2, below_grown hw2 _⟩

theorem applyL_len {es : List EdL} {t : List UInt8} (h : t.length ≤ 16384) : (applyL t es).1.length ≤ 16384 := by
  have := applyL_le es t
  omega
set_option maxRecDepth 100000 in
set_option maxHeartbeats 1000000 in
theorem docsChange_any (b mb : Nat) (L : List DocL) (n : ByteArray) (v : Int) (A : Option Addr) (c : Nat) (l : List EdV) (w : World) (h : St w b mb L) (hn : n.size ≤ 4194304) (hl : l.length ≤ 1048576) (hok : ∀ e ∈ l, e.Ok) (hr : RdE w A l) (hE : Env w) :
    Calls Tryd.prog 13 #[.pointer (some ⟨b, 0, none⟩), .string n, .int .i64 v, .slice A l.length c] w (ActPost (changeL L n.data.toList v (l.map EdV.l)) b mb w) := by
  have cG : ∀ (t : ByteArray) w', t.size ≤ 16384 → Below (w.alloc (.cells #[.slice A l.length c] 25)).heap.size (w.alloc (.cells #[.slice A l.length c] 25)) w' → Env w' → Calls Tryd.prog 29 (#[.string t] ++ #[.pointer (some ⟨w.heap.size, 0, none⟩)]) w' (TextPost (applyL t.data.toList (l.map EdV.l)) w') := fun t w' ht hb hE' => by
    have hcell : w'.cell? ⟨w.heap.size, 0, none⟩ = some (.slice A l.length c) := boxN hb 0 rfl
    have cA := edApply_any t A c l w' (by omega) hl hok (hr.below (bth (bal w _) hb)) hE'
    show Calls _ _ #[.string t, .pointer (some ⟨w.heap.size, 0, none⟩)] _ _
    have HA := Lib.hid cA
    clear cA hok hr hE h hE'
    generalize applyL t.data.toList (l.map EdV.l) = r at HA ⊢
    go_enter Tryd.func29, Tryd.ntmps29
    go_wp2_with (go_at_call 30; refine HA.out.mono ?_; rintro e w2 ⟨x, hx, rfl, hb2⟩)
    go_ret2
    obtain rfl : x = ⟨r.1.toArray⟩ := data_inj (by rw [hx])
    exact ⟨rfl, hb2⟩
  have cB := become_any b mb L n v 29 #[.pointer (some ⟨w.heap.size, 0, none⟩)] (fun t => applyL t (l.map EdV.l)) (w.alloc (.cells #[.slice A l.length c] 25)) (h.below (bal w _)) hn (hE.below (bal w _)) (enters_of Tryd.func29 (by kernel_rfl) rfl) cG (fun t ht _ => applyL_len ht)
  have HB := Lib.hid cB
  clear cG cB h hE hok hr
  go_enter Tryd.func13, Tryd.ntmps13
  go_wp2_with (go_at_call 28; refine HB.out.mono ?_; rintro e w2 ⟨rfl, hS2, hg2⟩)
  go_ret
  exact ⟨rfl, hS2, (below_grown (bal w _) _).trans hg2⟩
set_option maxRecDepth 100000 in
set_option maxHeartbeats 1000000 in
theorem docsWhole_any (b mb : Nat) (L : List DocL) (n : ByteArray) (v : Int) (s : ByteArray) (w : World) (h : St w b mb L) (hn : n.size ≤ 4194304) (hs : s.size ≤ 4194304) (hE : Env w) :
    Calls Tryd.prog 14 #[.pointer (some ⟨b, 0, none⟩), .string n, .int .i64 v, .string s] w (ActPost (wholeL L n.data.toList v s.data.toList) b mb w) := by
  have cG : ∀ (t : ByteArray) w', t.size ≤ 16384 → Below (w.alloc (.cells #[.string s] 9)).heap.size (w.alloc (.cells #[.string s] 9)) w' → Env w' → Calls Tryd.prog 31 (#[.string t] ++ #[.pointer (some ⟨w.heap.size, 0, none⟩)]) w' (TextPost (s.data.toList, holdsL s.data.toList) w') := fun t w' ht hb hE' => by
    have hcell : w'.cell? ⟨w.heap.size, 0, none⟩ = some (.string s) := boxN hb 0 rfl
    have cH := fun w2 hT => holds_any s w2 (by omega) hT
    show Calls _ _ #[.string t, .pointer (some ⟨w.heap.size, 0, none⟩)] _ _
    have HH := Lib.hid cH
    have HE := Lib.hid hE'
    clear cH hE h hE'
    go_enter Tryd.func31, Tryd.ntmps31
    go_wp2_with fail
    go_region_held3 (fun w2 => w2.cell? ⟨w.heap.size, 0, none⟩ = some (.string s)) (first | exact hcell | exact hk2)
      (first
        | (go_at_call 27; refine (HH.out _ ?_).mono ?_; exact HE.out.1; rintro e w2 ⟨rfl, hb2⟩; replace hb2 := bdr hb2; have hk2 : w2.cell? ⟨w.heap.size, 0, none⟩ = some (.string s) := (hb2.cell (p := ⟨w.heap.size, 0, none⟩) (lt_cellD hcell)).trans hcell))
    all_goals go_wp2_with fail
    all_goals go_ret2
    all_goals exact ⟨by rw [show (⟨s.data.toList.toArray⟩ : ByteArray) = s from data_inj rfl]; rfl, hb2⟩
  have cB := become_any b mb L n v 31 #[.pointer (some ⟨w.heap.size, 0, none⟩)] (fun _ => (s.data.toList, holdsL s.data.toList)) (w.alloc (.cells #[.string s] 9)) (h.below (bal w _)) hn (hE.below (bal w _)) (enters_of Tryd.func31 (by kernel_rfl) rfl) cG (fun t ht h0 => by
    simp only at h0 ⊢
    unfold holdsL at h0
    split at h0
    · split at h0
      · cases h0
      · omega
    · cases h0)
  have HB := Lib.hid cB
  clear cG cB h hE
  go_enter Tryd.func14, Tryd.ntmps14
  go_wp2_with (go_at_call 28; refine HB.out.mono ?_; rintro e w2 ⟨rfl, hS2, hg2⟩)
  go_ret
  exact ⟨rfl, hS2, (below_grown (bal w _) _).trans hg2⟩

set_option maxRecDepth 100000 in
set_option maxHeartbeats 1000000 in
theorem docsClose_any (b mb : Nat) (L : List DocL) (n : ByteArray) (w : World) (h : St w b mb L) (hn : n.size ≤ 4194304) :
    Calls Tryd.prog 15 #[.pointer (some ⟨b, 0, none⟩), .string n] w (ActPost (closeL L n.data.toList) b mb w) := by
  have HS := Lib.hid h
  have hlk := map_look h.map n (by omega)
  obtain ⟨⟨gn, gv, gt⟩, hg⟩ : ∃ g, g = (getL L n.data.toList).vv := ⟨_, rfl⟩
  rw [← hg] at hlk
  have hlk' : (Instr.lookup 50 (.map (some mb)) (.string n) true).run Tryd.prog w = .ok (.tuple #[.agg #[.string gn, .int .i64 gv, .string gt], .bool (hasL L n.data.toList)]) w := hlk
  have hc := h.cell
  unfold closeL
  cases hh : hasL L n.data.toList with
  | false =>
    rw [hh] at hlk'
    rw [if_neg (by decide)]
    clear hlk hg hh h
    go_enter Tryd.func15, Tryd.ntmps15
    go_wp2
    (try simp only [Exit.inBlock, Exit.then])
    go_ret
    exact ⟨rfl, HS.out.below (bal w _), below_grown (bal w _) _⟩
  | true =>
    rw [hh] at hlk'
    rw [if_pos rfl]
    have hS2 := h.below (bal w (.cells #[.string gn, .int .i64 gv, .string gt] 24))
    have hc2 := hS2.cell
    obtain ⟨w6, hdel, hm6, hg6⟩ := map_del hS2.map n (by omega) 0
    have HM := Lib.hid hm6
    have H2 := Lib.hid hS2
    clear hlk hg hh h hm6 hS2
    go_enter Tryd.func15, Tryd.ntmps15
    go_wp2
    (try simp only [Exit.inBlock, Exit.then])
    go_ret
    exact ⟨rfl, ⟨(hg6.block b H2.out.lt (fun e => H2.out.ne (Option.some.inj e))).trans H2.out.box, HM.out, dropL_rise H2.out.rise _, Nat.le_trans (List.length_filter_le ..) H2.out.len, fun x hx => H2.out.ok x (List.mem_filter.1 hx).1⟩, (below_grown (bal w _) _).trans hg6⟩
end Go.Proofs.YtcadfaecoldcpaaDoor
