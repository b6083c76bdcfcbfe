/-
  THE WALK of the statement DocsRefused. Conditions: what Env says of the world; the script and the act as they lie in memory, their sizes.
-/
import Derived.Test.YtcadfaecoldcpaaDoorDoM
set_option linter.unusedVariables false
set_option linter.unusedSimpArgs false
namespace Go.Proofs.YtcadfaecoldcpaaDoor
open Go.RowKit Go.Lib Go.Shelf Go.Maps

/-- An act, behind 'fits': what it does; no box. -/
theorem act_step0 {w0 w w2 : World} {b mb r c : Nat} {L : List DocL} {A : Option Addr} (a : ActV) (Ae : Option Addr) (ce : Nat) (hS : St w b mb L) (hM : Sm w r A c L) (hE : Env w0) (hb : Below w0.heap.size w0 w) (hmb : w0.heap.size ≤ mb) (hr : w0.heap.size ≤ r) (hw : a.Wide) (hf : FitsA a) (hre : RdE w0 Ae a.l)
    (hb2 : Below w.heap.size w w2) :
    Calls Tryd.prog 10 #[.agg #[.int .i64 a.k, .string a.n, .int .i64 a.v, .string a.t, .slice Ae a.l.length ce], .pointer (some ⟨b, 0, none⟩), .pointer (some ⟨r, 0, none⟩)] w2 (fun e w3 => e = .returned (.bool true) ∧ PlayInv w3 b mb r ∧ Below w0.heap.size w0 w3) := by
  have hbb := bth hb hb2
  have hs := hbb.size
  refine (do_any a Ae ce b mb r c A L w2 (hS.below hb2) (hM.below hb2) (hE.below hbb) hw hf (hre.below hbb) (hre.apart hmb)).mono ?_
  rintro e w3 ⟨rfl, hS3, ⟨A3, c3, hM3⟩, hk⟩
  exact ⟨rfl, ⟨_, A3, c3, hS3, hM3⟩, hk.1 _ _ hbb hs hmb hr⟩
/-- What is refused, or not. -/
theorem refused {L : List DocL} {a : ActV} {p : List DocL × Nat} (hp : p = actL L a) : p = (p.1, 0) ∨ ∃ q : Nat, (((q : Nat) : Int) == 0) = false ∧ p = (L, q) := by
  by_cases h : p.2 = 0
  · exact .inl (by rw [← h])
  · refine .inr ⟨p.2, beq_eq_false_iff_ne.2 (by omega), ?_⟩
    have := actL_no (L := L) (a := a) (by rw [← hp]; exact h)
    rw [← hp] at this
    rw [← this]

theorem actL1 {L : List DocL} {a : ActV} (hk : a.k = 1) : actL L a = openL L ⟨a.n.data.toList, a.v, a.t.data.toList⟩ := by unfold actL; rw [if_pos hk]
theorem actL2 {L : List DocL} {a : ActV} (hk : a.k = 2) : actL L a = changeL L a.n.data.toList a.v (a.l.map EdV.l) := by unfold actL; rw [if_neg (by omega), if_pos hk]
theorem actL3 {L : List DocL} {a : ActV} (hk : a.k = 3) : actL L a = wholeL L a.n.data.toList a.v a.t.data.toList := by unfold actL; rw [if_neg (by omega), if_neg (by omega), if_pos hk]
theorem actL4 {L : List DocL} {a : ActV} (hk : a.k = 4) : actL L a = closeL L a.n.data.toList := by unfold actL; rw [if_neg (by omega), if_neg (by omega), if_neg (by omega), if_pos hk]
theorem kind1 {L L' : List DocL} {a : ActV} {q : Nat} (hk : a.k = 1) (hp : actL L a = (L', q)) (b mb : Nat) (w : World) (h : St w b mb L) (hE : Env w) (hn : a.n.size ≤ 300) (ht : a.t.size ≤ 300) :
    Calls Tryd.prog 12 #[.pointer (some ⟨b, 0, none⟩), .agg #[.string a.n, .int .i64 a.v, .string a.t]] w (ActN (q : Nat) L' b mb w) :=
  (docsOpen_any b mb L ⟨a.n, a.v, a.t⟩ w h (by show a.n.size ≤ _; omega) (by show a.t.size ≤ _; omega) hE).mono (actN_of ((actL1 hk).symm.trans hp))
theorem kind2 {L L' : List DocL} {a : ActV} {q : Nat} (hk : a.k = 2) (hp : actL L a = (L', q)) (Ae : Option Addr) (ce : Nat) (b mb : Nat) (w : World) (h : St w b mb L) (hE : Env w) (hn : a.n.size ≤ 300) (hl : a.l.length ≤ 12) (hok : ∀ e ∈ a.l, e.Ok) (hr : RdE w Ae a.l) :
    Calls Tryd.prog 13 #[.pointer (some ⟨b, 0, none⟩), .string a.n, .int .i64 a.v, .slice Ae a.l.length ce] w (ActN (q : Nat) L' b mb w) :=
  (docsChange_any b mb L a.n a.v Ae ce a.l w h (by omega) (by omega) hok hr hE).mono (actN_of ((actL2 hk).symm.trans hp))
theorem kind3 {L L' : List DocL} {a : ActV} {q : Nat} (hk : a.k = 3) (hp : actL L a = (L', q)) (b mb : Nat) (w : World) (h : St w b mb L) (hE : Env w) (hn : a.n.size ≤ 300) (ht : a.t.size ≤ 300) :
    Calls Tryd.prog 14 #[.pointer (some ⟨b, 0, none⟩), .string a.n, .int .i64 a.v, .string a.t] w (ActN (q : Nat) L' b mb w) :=
  (docsWhole_any b mb L a.n a.v a.t w h (by omega) (by omega) hE).mono (actN_of ((actL3 hk).symm.trans hp))
theorem kind4 {L L' : List DocL} {a : ActV} {q : Nat} (hk : a.k = 4) (hp : actL L a = (L', q)) (b mb : Nat) (w : World) (h : St w b mb L) (hn : a.n.size ≤ 300) :
    Calls Tryd.prog 15 #[.pointer (some ⟨b, 0, none⟩), .string a.n] w (ActN (q : Nat) L' b mb w) :=
  (docsClose_any b mb L a.n w h (by omega)).mono (actN_of ((actL4 hk).symm.trans hp))

set_option maxRecDepth 100000 in
set_option maxHeartbeats 8000000 in
theorem docsRefused_go (a : ActV) (Ae : Option Addr) (ce : Nat) (A : Option Addr) (c : Nat) (l : List ActV) (w W0 : World) (hW0 : W0 = w.alloc (.cells #[.int .i64 a.k, .string a.n, .int .i64 a.v, .string a.t, .slice Ae a.l.length ce] 27)) (hE : Env W0) (hR : RdA W0 A l) (hw : ∀ a ∈ l, a.Wide) (hl : l.length ≤ 140737488355328) (haw : a.Wide) (hre0 : RdE W0 Ae a.l) (hX : ActBox W0 w.heap.size a Ae ce) (hbw : Below w.heap.size w W0) :
    Calls Tryd.prog 3 #[.slice A l.length c, .agg #[.int .i64 a.k, .string a.n, .int .i64 a.v, .string a.t, .slice Ae a.l.length ce]] w (BoolPost true w) := by
  have HL := Lib.hid fun w' he => alive07_any w' he
  have HE := Lib.hid hE
  have HR := Lib.hid hR
  have HW := Lib.hid hw
  have HX := Lib.hid hX
  have HBW := Lib.hid hbw
  have HRE0 := Lib.hid hre0
  have HAW := Lib.hid haw
  have HW0 := Lib.hid hW0
  by_cases hf0 : FitsA a
  · have HF0 := Lib.hid fun w' (hb : Below W0.heap.size W0 w') => fits_yes a Ae ce w' haw hf0 (hre0.below hb)
    obtain ⟨hn3, ht3, hl3, hok3⟩ := hf0.ok haw
    have HOK3 := Lib.hid hok3
    clear hE hR hw hX hbw hre0 haw hok3
    go_enter Tryd.func3, Tryd.ntmps3
    go_upto_block 0 with (first
      | (go_at_call 8; refine (HF0.out _ hb2.out).mono ?_; rintro e w2 ⟨rfl, hbf⟩)
      | (go_at_call 7; refine (docsNew_any _).mono ?_; rintro e w1 ⟨b, mb, rfl, hS1, hbb, hm, hb1⟩; rw [← HW0.out] at hbb hm hb1; have hst := Lib.hid (play_start w1 b mb hS1); have hb2 := Lib.hid (bth hb1 (bal w1 (.cells #[.slice none 0 0] 33))); have hr := hb1.size; obtain ⟨y0, y1, y2, y3, y4⟩ := HX.out.below hb2.out))
    have HP := Lib.hid (hst.out.below hbf)
    have HB := Lib.hid (bth hb2.out hbf)
    obtain ⟨r, hrr⟩ : ∃ r, r = w1.heap.size := ⟨_, rfl⟩
    rw [← hrr] at HP hr ⊢
    clear hst hbf hb2 y0 y1 y2 y3 y4 hb1 hS1 hrr HF0
    go_cut [8] (fun _ wx => Below W0.heap.size W0 wx ∧ Hid (PlayInv wx b mb r))
    case first =>
      go_wp2_with fail
      go_loopg [8] 60 (fun gn v wr => ∃ k : Nat, v = .int .i64 k ∧ k ≤ l.length ∧ k ≤ 60 ∧ gn = 60 - k ∧ Below W0.heap.size W0 wr ∧ Hid (PlayInv wr b mb r))
      case atStart => exact ⟨0, rfl, Nat.zero_le _, Nat.zero_le _, rfl, HB.out, HP⟩
      case round =>
        obtain ⟨k, rfl, hk, hk60, rfl, hbr, hP⟩ := hrel
        clear HP HB
        by_cases hkl : k < l.length
        · have hkz : (k : Int) < (l.length : Int) := by omega
          by_cases h60 : k < 60
          · have h60z : (k : Int) < 60 := by omega
            obtain ⟨L, A2, c2, hS, hM⟩ := hP.out
            obtain ⟨g, o, Af, cf, hA, hlt, c0, c1, c2', c3, c4, hre⟩ := HR.out k hkl
            replace c0 := (hbr.cell (p := ⟨g, o + k * 5, none⟩) hlt).trans c0
            replace c1 := (hbr.cell (p := ⟨g, o + k * 5 + 1, none⟩) hlt).trans c1
            replace c2' := (hbr.cell (p := ⟨g, o + k * 5 + 2, none⟩) hlt).trans c2'
            replace c3 := (hbr.cell (p := ⟨g, o + k * 5 + 3, none⟩) hlt).trans c3
            replace c4 := (hbr.cell (p := ⟨g, o + k * 5 + 4, none⟩) hlt).trans c4
            have hlr : g < wr.heap.size := by have := hbr.size; omega
            have ha := HW.out _ (List.getElem_mem hkl)
            obtain ⟨d, hae⟩ : ∃ d, d = l[k] := ⟨_, rfl⟩
            rw [← hae] at c0 c1 c2' c3 c4 hre ha
            clear hae
            subst hA
            by_cases hf : FitsA d
            · have HF := Lib.hid (fits_yes d Af cf wr ha hf (hre.below hbr))
              have HD := Lib.hid fun w2 (hb2 : Below wr.heap.size wr w2) => act_step0 d Af cf hS hM HE.out hbr hm hr ha hf hre hb2
              clear hS hM hP hf hre ha
              go_wp2_with (first
                | (go_at_call 10; refine (HD.out _ hb2).mono ?_; rintro e w3 ⟨rfl, hP3, hbw3⟩)
                | (go_at_call 8; refine HF.out.mono ?_; rintro e w2 ⟨rfl, hb2⟩; have e0 := (hb2.cell (p := ⟨g, o + k * 5, none⟩) hlr).trans c0; have e1 := (hb2.cell (p := ⟨g, o + k * 5 + 1, none⟩) hlr).trans c1; have e2 := (hb2.cell (p := ⟨g, o + k * 5 + 2, none⟩) hlr).trans c2'; have e3 := (hb2.cell (p := ⟨g, o + k * 5 + 3, none⟩) hlr).trans c3; have e4 := (hb2.cell (p := ⟨g, o + k * 5 + 4, none⟩) hlr).trans c4))
              go_roundg (60 - (k + 1))
              case measure => omega
              case rel => exact ⟨k + 1, by go_num, by omega, by omega, rfl, hbw3, Lib.hid hP3⟩
            · have HF := Lib.hid (fits_no d Af cf wr ha hf (hre.below hbr))
              clear hS hM hre ha
              go_wp2_with (go_at_call 8; refine HF.out.mono ?_; rintro e w2 ⟨rfl, hb2⟩)
              go_roundg (60 - (k + 1))
              case measure => omega
              case rel => exact ⟨k + 1, by go_num, by omega, by omega, rfl, bth hbr hb2, Lib.hid (hP.out.below hb2)⟩
          · have h60z : decide ((k : Int) < 60) = false := decide_eq_false (by omega)
            go_wp2_with fail
            go_meet
            exact ⟨hbr, hP⟩
        · have hkz : decide (k < l.length) = false := decide_eq_false (by omega)
          go_wp2_with fail
          go_meet
          exact ⟨hbr, hP⟩
    case rest =>
      obtain ⟨hbr, hP⟩ := hcut
      obtain ⟨L, A2, c2, hS, hM⟩ := hP.out
      have HS := Lib.hid hS
      have HXc := Lib.hid (HX.out.below hbr)
      clear hS hM hP HP HB HR HW
      by_cases hk : a.k = 1
      · rcases refused (L := L) (a := a) rfl with hp | ⟨q, hq, hp⟩
        · have cK : ∀ w', St w' b mb L → Env w' → RdE w' Ae a.l → Calls Tryd.prog 12 #[.pointer (some ⟨b, 0, none⟩), .agg #[.string a.n, .int .i64 a.v, .string a.t]] w' (ActN 0 (actL L a).1 b mb w') := fun w' h he hr' => kind1 hk hp b mb w' h he hn3 ht3
          have HK := Lib.hid cK
          clear cK hp
          obtain ⟨M, hM'⟩ : ∃ M, M = (actL L a).1 := ⟨_, rfl⟩
          rw [← hM'] at HK
          clear hM'
          go_wp2_with (first
            | (go_at_call 9; refine (HL.out _ (HE.out.below hw5)).mono ?_; rintro e w6 ⟨rfl, hb6⟩)
            | (go_at_call 16; refine (refSame_any Ab Aa cb ca L M _ hDb4.out hD4.out (by have := hS2.out.len; omega) (by have := hS4.out.len; omega)).mono ?_; rintro e w5 ⟨bs, rfl, hbs, hb5⟩; have hw5 := bth hw4 hb5)
            | (go_at_call 11; refine (docsAll_any b mb M _ hS3.out).mono ?_; rintro e w4 ⟨Aa, ca, rfl, hD4, hb4⟩; replace hD4 := Lib.hid hD4; have hS4 := Lib.hid (hS3.out.below hb4); have hw4 := bth hw3.1 hb4; have hDb4 := Lib.hid (hDb3.out.below hb4))
            | (go_at_call 12; refine (HK.out _ hS2.out (HE.out.below hw2) (HRE0.out.below hw2)).mono ?_; rintro e w3 ⟨rfl, hS3, hg3⟩; replace hS3 := Lib.hid hS3; have hw3 := below_act hw2 hw2.size hm hg3; have hDb3 := Lib.hid (hD2.out.kept hg3 (fun g o h h0 e => rdD_nmap hD2.out hS2.out.map g o h h0 (Option.some.inj e))); clear hg3)
            | (go_at_call 11; refine (docsAll_any b mb L wc HS.out).mono ?_; rintro e w2 ⟨Ab, cb, rfl, hD2, hb2⟩; replace hD2 := Lib.hid hD2; have hS2 := Lib.hid (HS.out.below hb2); have hw2 := bth hbr hb2; obtain ⟨z0, z1, z2, z3, z4⟩ := HXc.out.below hb2))
          all_goals go_ret
          all_goals exact ⟨rfl, bth HBW.out (bth hw5 hb6)⟩
        · have cK : ∀ w', St w' b mb L → Env w' → RdE w' Ae a.l → Calls Tryd.prog 12 #[.pointer (some ⟨b, 0, none⟩), .agg #[.string a.n, .int .i64 a.v, .string a.t]] w' (ActN q L b mb w') := fun w' h he hr' => kind1 hk hp b mb w' h he hn3 ht3
          have HK := Lib.hid cK
          clear cK hp
          go_wp2_with (first
            | (go_at_call 9; refine (HL.out _ (HE.out.below hw5)).mono ?_; rintro e w6 ⟨rfl, hb6⟩)
            | (go_at_call 16; refine (refSame_any Ab Aa cb ca L L _ hDb4.out hD4.out (by have := hS2.out.len; omega) (by have := hS4.out.len; omega)).mono ?_; rintro e w5 ⟨bs, rfl, hbs, hb5⟩; obtain rfl := hbs rfl; have hw5 := bth hw4 hb5)
            | (go_at_call 11; refine (docsAll_any b mb L _ hS3.out).mono ?_; rintro e w4 ⟨Aa, ca, rfl, hD4, hb4⟩; replace hD4 := Lib.hid hD4; have hS4 := Lib.hid (hS3.out.below hb4); have hw4 := bth hw3.1 hb4; have hDb4 := Lib.hid (hDb3.out.below hb4))
            | (go_at_call 12; refine (HK.out _ hS2.out (HE.out.below hw2) (HRE0.out.below hw2)).mono ?_; rintro e w3 ⟨rfl, hS3, hg3⟩; replace hS3 := Lib.hid hS3; have hw3 := below_act hw2 hw2.size hm hg3; have hDb3 := Lib.hid (hD2.out.kept hg3 (fun g o h h0 e => rdD_nmap hD2.out hS2.out.map g o h h0 (Option.some.inj e))); clear hg3)
            | (go_at_call 11; refine (docsAll_any b mb L wc HS.out).mono ?_; rintro e w2 ⟨Ab, cb, rfl, hD2, hb2⟩; replace hD2 := Lib.hid hD2; have hS2 := Lib.hid (HS.out.below hb2); have hw2 := bth hbr hb2; obtain ⟨z0, z1, z2, z3, z4⟩ := HXc.out.below hb2))
          all_goals go_ret
          all_goals exact ⟨rfl, bth HBW.out (bth hw5 hb6)⟩
      · have k1 : (a.k == 1) = false := beq_eq_false_iff_ne.2 hk
        clear hk
        by_cases hk : a.k = 2
        · rcases refused (L := L) (a := a) rfl with hp | ⟨q, hq, hp⟩
          · have cK : ∀ w', St w' b mb L → Env w' → RdE w' Ae a.l → Calls Tryd.prog 13 #[.pointer (some ⟨b, 0, none⟩), .string a.n, .int .i64 a.v, .slice Ae a.l.length ce] w' (ActN 0 (actL L a).1 b mb w') := fun w' h he hr' => kind2 hk hp Ae ce b mb w' h he hn3 hl3 HOK3.out hr'
            have HK := Lib.hid cK
            clear cK hp
            obtain ⟨M, hM'⟩ : ∃ M, M = (actL L a).1 := ⟨_, rfl⟩
            rw [← hM'] at HK
            clear hM'
            go_wp2_with (first
              | (go_at_call 9; refine (HL.out _ (HE.out.below hw5)).mono ?_; rintro e w6 ⟨rfl, hb6⟩)
              | (go_at_call 16; refine (refSame_any Ab Aa cb ca L M _ hDb4.out hD4.out (by have := hS2.out.len; omega) (by have := hS4.out.len; omega)).mono ?_; rintro e w5 ⟨bs, rfl, hbs, hb5⟩; have hw5 := bth hw4 hb5)
              | (go_at_call 11; refine (docsAll_any b mb M _ hS3.out).mono ?_; rintro e w4 ⟨Aa, ca, rfl, hD4, hb4⟩; replace hD4 := Lib.hid hD4; have hS4 := Lib.hid (hS3.out.below hb4); have hw4 := bth hw3.1 hb4; have hDb4 := Lib.hid (hDb3.out.below hb4))
              | (go_at_call 13; refine (HK.out _ hS2.out (HE.out.below hw2) (HRE0.out.below hw2)).mono ?_; rintro e w3 ⟨rfl, hS3, hg3⟩; replace hS3 := Lib.hid hS3; have hw3 := below_act hw2 hw2.size hm hg3; have hDb3 := Lib.hid (hD2.out.kept hg3 (fun g o h h0 e => rdD_nmap hD2.out hS2.out.map g o h h0 (Option.some.inj e))); clear hg3)
              | (go_at_call 11; refine (docsAll_any b mb L wc HS.out).mono ?_; rintro e w2 ⟨Ab, cb, rfl, hD2, hb2⟩; replace hD2 := Lib.hid hD2; have hS2 := Lib.hid (HS.out.below hb2); have hw2 := bth hbr hb2; obtain ⟨z0, z1, z2, z3, z4⟩ := HXc.out.below hb2))
            all_goals go_ret
            all_goals exact ⟨rfl, bth HBW.out (bth hw5 hb6)⟩
          · have cK : ∀ w', St w' b mb L → Env w' → RdE w' Ae a.l → Calls Tryd.prog 13 #[.pointer (some ⟨b, 0, none⟩), .string a.n, .int .i64 a.v, .slice Ae a.l.length ce] w' (ActN q L b mb w') := fun w' h he hr' => kind2 hk hp Ae ce b mb w' h he hn3 hl3 HOK3.out hr'
            have HK := Lib.hid cK
            clear cK hp
            go_wp2_with (first
              | (go_at_call 9; refine (HL.out _ (HE.out.below hw5)).mono ?_; rintro e w6 ⟨rfl, hb6⟩)
              | (go_at_call 16; refine (refSame_any Ab Aa cb ca L L _ hDb4.out hD4.out (by have := hS2.out.len; omega) (by have := hS4.out.len; omega)).mono ?_; rintro e w5 ⟨bs, rfl, hbs, hb5⟩; obtain rfl := hbs rfl; have hw5 := bth hw4 hb5)
              | (go_at_call 11; refine (docsAll_any b mb L _ hS3.out).mono ?_; rintro e w4 ⟨Aa, ca, rfl, hD4, hb4⟩; replace hD4 := Lib.hid hD4; have hS4 := Lib.hid (hS3.out.below hb4); have hw4 := bth hw3.1 hb4; have hDb4 := Lib.hid (hDb3.out.below hb4))
              | (go_at_call 13; refine (HK.out _ hS2.out (HE.out.below hw2) (HRE0.out.below hw2)).mono ?_; rintro e w3 ⟨rfl, hS3, hg3⟩; replace hS3 := Lib.hid hS3; have hw3 := below_act hw2 hw2.size hm hg3; have hDb3 := Lib.hid (hD2.out.kept hg3 (fun g o h h0 e => rdD_nmap hD2.out hS2.out.map g o h h0 (Option.some.inj e))); clear hg3)
              | (go_at_call 11; refine (docsAll_any b mb L wc HS.out).mono ?_; rintro e w2 ⟨Ab, cb, rfl, hD2, hb2⟩; replace hD2 := Lib.hid hD2; have hS2 := Lib.hid (HS.out.below hb2); have hw2 := bth hbr hb2; obtain ⟨z0, z1, z2, z3, z4⟩ := HXc.out.below hb2))
            all_goals go_ret
            all_goals exact ⟨rfl, bth HBW.out (bth hw5 hb6)⟩
        · have k2 : (a.k == 2) = false := beq_eq_false_iff_ne.2 hk
          clear hk
          by_cases hk : a.k = 3
          · rcases refused (L := L) (a := a) rfl with hp | ⟨q, hq, hp⟩
            · have cK : ∀ w', St w' b mb L → Env w' → RdE w' Ae a.l → Calls Tryd.prog 14 #[.pointer (some ⟨b, 0, none⟩), .string a.n, .int .i64 a.v, .string a.t] w' (ActN 0 (actL L a).1 b mb w') := fun w' h he hr' => kind3 hk hp b mb w' h he hn3 ht3
              have HK := Lib.hid cK
              clear cK hp
              obtain ⟨M, hM'⟩ : ∃ M, M = (actL L a).1 := ⟨_, rfl⟩
              rw [← hM'] at HK
              clear hM'
              go_wp2_with (first
                | (go_at_call 9; refine (HL.out _ (HE.out.below hw5)).mono ?_; rintro e w6 ⟨rfl, hb6⟩)
                | (go_at_call 16; refine (refSame_any Ab Aa cb ca L M _ hDb4.out hD4.out (by have := hS2.out.len; omega) (by have := hS4.out.len; omega)).mono ?_; rintro e w5 ⟨bs, rfl, hbs, hb5⟩; have hw5 := bth hw4 hb5)
                | (go_at_call 11; refine (docsAll_any b mb M _ hS3.out).mono ?_; rintro e w4 ⟨Aa, ca, rfl, hD4, hb4⟩; replace hD4 := Lib.hid hD4; have hS4 := Lib.hid (hS3.out.below hb4); have hw4 := bth hw3.1 hb4; have hDb4 := Lib.hid (hDb3.out.below hb4))
                | (go_at_call 14; refine (HK.out _ hS2.out (HE.out.below hw2) (HRE0.out.below hw2)).mono ?_; rintro e w3 ⟨rfl, hS3, hg3⟩; replace hS3 := Lib.hid hS3; have hw3 := below_act hw2 hw2.size hm hg3; have hDb3 := Lib.hid (hD2.out.kept hg3 (fun g o h h0 e => rdD_nmap hD2.out hS2.out.map g o h h0 (Option.some.inj e))); clear hg3)
                | (go_at_call 11; refine (docsAll_any b mb L wc HS.out).mono ?_; rintro e w2 ⟨Ab, cb, rfl, hD2, hb2⟩; replace hD2 := Lib.hid hD2; have hS2 := Lib.hid (HS.out.below hb2); have hw2 := bth hbr hb2; obtain ⟨z0, z1, z2, z3, z4⟩ := HXc.out.below hb2))
              all_goals go_ret
              all_goals exact ⟨rfl, bth HBW.out (bth hw5 hb6)⟩
            · have cK : ∀ w', St w' b mb L → Env w' → RdE w' Ae a.l → Calls Tryd.prog 14 #[.pointer (some ⟨b, 0, none⟩), .string a.n, .int .i64 a.v, .string a.t] w' (ActN q L b mb w') := fun w' h he hr' => kind3 hk hp b mb w' h he hn3 ht3
              have HK := Lib.hid cK
              clear cK hp
              go_wp2_with (first
                | (go_at_call 9; refine (HL.out _ (HE.out.below hw5)).mono ?_; rintro e w6 ⟨rfl, hb6⟩)
                | (go_at_call 16; refine (refSame_any Ab Aa cb ca L L _ hDb4.out hD4.out (by have := hS2.out.len; omega) (by have := hS4.out.len; omega)).mono ?_; rintro e w5 ⟨bs, rfl, hbs, hb5⟩; obtain rfl := hbs rfl; have hw5 := bth hw4 hb5)
                | (go_at_call 11; refine (docsAll_any b mb L _ hS3.out).mono ?_; rintro e w4 ⟨Aa, ca, rfl, hD4, hb4⟩; replace hD4 := Lib.hid hD4; have hS4 := Lib.hid (hS3.out.below hb4); have hw4 := bth hw3.1 hb4; have hDb4 := Lib.hid (hDb3.out.below hb4))
                | (go_at_call 14; refine (HK.out _ hS2.out (HE.out.below hw2) (HRE0.out.below hw2)).mono ?_; rintro e w3 ⟨rfl, hS3, hg3⟩; replace hS3 := Lib.hid hS3; have hw3 := below_act hw2 hw2.size hm hg3; have hDb3 := Lib.hid (hD2.out.kept hg3 (fun g o h h0 e => rdD_nmap hD2.out hS2.out.map g o h h0 (Option.some.inj e))); clear hg3)
                | (go_at_call 11; refine (docsAll_any b mb L wc HS.out).mono ?_; rintro e w2 ⟨Ab, cb, rfl, hD2, hb2⟩; replace hD2 := Lib.hid hD2; have hS2 := Lib.hid (HS.out.below hb2); have hw2 := bth hbr hb2; obtain ⟨z0, z1, z2, z3, z4⟩ := HXc.out.below hb2))
              all_goals go_ret
              all_goals exact ⟨rfl, bth HBW.out (bth hw5 hb6)⟩
          · have k3 : (a.k == 3) = false := beq_eq_false_iff_ne.2 hk
            clear hk
            by_cases hk : a.k = 4
            · rcases refused (L := L) (a := a) rfl with hp | ⟨q, hq, hp⟩
              · have cK : ∀ w', St w' b mb L → Env w' → RdE w' Ae a.l → Calls Tryd.prog 15 #[.pointer (some ⟨b, 0, none⟩), .string a.n] w' (ActN 0 (actL L a).1 b mb w') := fun w' h he hr' => kind4 hk hp b mb w' h hn3
                have HK := Lib.hid cK
                clear cK hp
                obtain ⟨M, hM'⟩ : ∃ M, M = (actL L a).1 := ⟨_, rfl⟩
                rw [← hM'] at HK
                clear hM'
                go_wp2_with (first
                  | (go_at_call 9; refine (HL.out _ (HE.out.below hw5)).mono ?_; rintro e w6 ⟨rfl, hb6⟩)
                  | (go_at_call 16; refine (refSame_any Ab Aa cb ca L M _ hDb4.out hD4.out (by have := hS2.out.len; omega) (by have := hS4.out.len; omega)).mono ?_; rintro e w5 ⟨bs, rfl, hbs, hb5⟩; have hw5 := bth hw4 hb5)
                  | (go_at_call 11; refine (docsAll_any b mb M _ hS3.out).mono ?_; rintro e w4 ⟨Aa, ca, rfl, hD4, hb4⟩; replace hD4 := Lib.hid hD4; have hS4 := Lib.hid (hS3.out.below hb4); have hw4 := bth hw3.1 hb4; have hDb4 := Lib.hid (hDb3.out.below hb4))
                  | (go_at_call 15; refine (HK.out _ hS2.out (HE.out.below hw2) (HRE0.out.below hw2)).mono ?_; rintro e w3 ⟨rfl, hS3, hg3⟩; replace hS3 := Lib.hid hS3; have hw3 := below_act hw2 hw2.size hm hg3; have hDb3 := Lib.hid (hD2.out.kept hg3 (fun g o h h0 e => rdD_nmap hD2.out hS2.out.map g o h h0 (Option.some.inj e))); clear hg3)
                  | (go_at_call 11; refine (docsAll_any b mb L wc HS.out).mono ?_; rintro e w2 ⟨Ab, cb, rfl, hD2, hb2⟩; replace hD2 := Lib.hid hD2; have hS2 := Lib.hid (HS.out.below hb2); have hw2 := bth hbr hb2; obtain ⟨z0, z1, z2, z3, z4⟩ := HXc.out.below hb2))
                all_goals go_ret
                all_goals exact ⟨rfl, bth HBW.out (bth hw5 hb6)⟩
              · have cK : ∀ w', St w' b mb L → Env w' → RdE w' Ae a.l → Calls Tryd.prog 15 #[.pointer (some ⟨b, 0, none⟩), .string a.n] w' (ActN q L b mb w') := fun w' h he hr' => kind4 hk hp b mb w' h hn3
                have HK := Lib.hid cK
                clear cK hp
                go_wp2_with (first
                  | (go_at_call 9; refine (HL.out _ (HE.out.below hw5)).mono ?_; rintro e w6 ⟨rfl, hb6⟩)
                  | (go_at_call 16; refine (refSame_any Ab Aa cb ca L L _ hDb4.out hD4.out (by have := hS2.out.len; omega) (by have := hS4.out.len; omega)).mono ?_; rintro e w5 ⟨bs, rfl, hbs, hb5⟩; obtain rfl := hbs rfl; have hw5 := bth hw4 hb5)
                  | (go_at_call 11; refine (docsAll_any b mb L _ hS3.out).mono ?_; rintro e w4 ⟨Aa, ca, rfl, hD4, hb4⟩; replace hD4 := Lib.hid hD4; have hS4 := Lib.hid (hS3.out.below hb4); have hw4 := bth hw3.1 hb4; have hDb4 := Lib.hid (hDb3.out.below hb4))
                  | (go_at_call 15; refine (HK.out _ hS2.out (HE.out.below hw2) (HRE0.out.below hw2)).mono ?_; rintro e w3 ⟨rfl, hS3, hg3⟩; replace hS3 := Lib.hid hS3; have hw3 := below_act hw2 hw2.size hm hg3; have hDb3 := Lib.hid (hD2.out.kept hg3 (fun g o h h0 e => rdD_nmap hD2.out hS2.out.map g o h h0 (Option.some.inj e))); clear hg3)
                  | (go_at_call 11; refine (docsAll_any b mb L wc HS.out).mono ?_; rintro e w2 ⟨Ab, cb, rfl, hD2, hb2⟩; replace hD2 := Lib.hid hD2; have hS2 := Lib.hid (HS.out.below hb2); have hw2 := bth hbr hb2; obtain ⟨z0, z1, z2, z3, z4⟩ := HXc.out.below hb2))
                all_goals go_ret
                all_goals exact ⟨rfl, bth HBW.out (bth hw5 hb6)⟩
            · have k4 : (a.k == 4) = false := beq_eq_false_iff_ne.2 hk
              clear hk
              go_wp2_with (first
                | (go_at_call 9; refine (HL.out _ (HE.out.below hw5)).mono ?_; rintro e w6 ⟨rfl, hb6⟩)
                | (go_at_call 16; refine (refSame_any Ab Aa cb ca L L _ hDb4.out hD4.out (by have := hS2.out.len; omega) (by have := hS4.out.len; omega)).mono ?_; rintro e w5 ⟨bs, rfl, hbs, hb5⟩; have hw5 := bth hw4 hb5)
                | (go_at_call 11; refine (docsAll_any b mb L _ hS2.out).mono ?_; rintro e w4 ⟨Aa, ca, rfl, hD4, hb4⟩; replace hD4 := Lib.hid hD4; have hS4 := Lib.hid (hS2.out.below hb4); have hw4 := bth hw2 hb4; have hDb4 := Lib.hid (hD2.out.below hb4))
                | (go_at_call 11; refine (docsAll_any b mb L wc HS.out).mono ?_; rintro e w2 ⟨Ab, cb, rfl, hD2, hb2⟩; replace hD2 := Lib.hid hD2; have hS2 := Lib.hid (HS.out.below hb2); have hw2 := bth hbr hb2; obtain ⟨z0, z1, z2, z3, z4⟩ := HXc.out.below hb2))
              all_goals go_ret
              all_goals exact ⟨rfl, bth HBW.out (bth hw5 hb6)⟩
  · have HF0 := Lib.hid fun w' (hb : Below W0.heap.size W0 w') => fits_no a Ae ce w' haw hf0 (hre0.below hb)
    clear hE hR hw hX hbw hre0 haw
    go_enter Tryd.func3, Tryd.ntmps3
    go_wp2_with (first
      | (go_at_call 9; refine (HL.out _ (HE.out.below hb3.out)).mono ?_; rintro e w3 ⟨rfl, hb4⟩)
      | (go_at_call 8; refine (HF0.out _ hb2.out).mono ?_; rintro e w2 ⟨rfl, hbf⟩; have hb3 := Lib.hid (bth hb2.out hbf))
      | (go_at_call 7; refine (docsNew_any _).mono ?_; rintro e w1 ⟨b, mb, rfl, hS1, hbb, hm, hb1⟩; rw [← HW0.out] at hbb hm hb1; have hb2 := Lib.hid (bth hb1 (bal w1 (.cells #[.slice none 0 0] 33))); obtain ⟨y0, y1, y2, y3, y4⟩ := HX.out.below hb2.out))
    go_ret
    exact ⟨rfl, bth HBW.out (bth hb3.out hb4)⟩
end Go.Proofs.YtcadfaecoldcpaaDoor
