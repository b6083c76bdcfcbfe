/-
  THE WALK of the statement DocsPlay. Conditions: what Env says of the world; the script as it lies in memory, its sizes.
-/
import Derived.Test.YtcadfaecoldcpaaDoorDoWb
import Derived.Deep.RegionHeld3
import Derived.Deep.DrawnRows
import Derived.BigQuiet
set_option linter.unusedVariables false
set_option linter.unusedSimpArgs false
namespace Go.Proofs.YtcadfaecoldcpaaDoor
open Go.RowKit Go.Lib Go.Shelf Go.Maps

theorem fits_yes (a : ActV) (A : Option Addr) (c : Nat) (w : World) (hw : a.Wide) (hf : FitsA a) (hr : RdE w A a.l) :
    Calls Tryd.prog 8 #[.agg #[.int .i64 a.k, .string a.n, .int .i64 a.v, .string a.t, .slice A a.l.length c]] w (BoolPost true w) :=
  (fits07_any a A c w hw hr).mono fun e w' ⟨b, he, hb, hbl⟩ => by
    obtain rfl := hb.2 hf
    exact ⟨he, hbl⟩
theorem fits_no (a : ActV) (A : Option Addr) (c : Nat) (w : World) (hw : a.Wide) (hf : ¬ FitsA a) (hr : RdE w A a.l) :
    Calls Tryd.prog 8 #[.agg #[.int .i64 a.k, .string a.n, .int .i64 a.v, .string a.t, .slice A a.l.length c]] w (BoolPost false w) :=
  (fits07_any a A c w hw hr).mono fun e w' ⟨b, he, hb, hbl⟩ => by
    have : b = false := by
      cases b with
      | false => rfl
      | true => exact absurd (hb.1 rfl) hf
    subst this
    exact ⟨he, hbl⟩
theorem getL_name {L : List DocL} {n : List UInt8} (h : hasL L n = true) : (getL L n).n = n := by
  rw [findL_has] at h
  cases hf : findL L n with
  | none => rw [hf] at h; cases h
  | some d => rw [getL_some hf]; exact (findL_some hf).2
/-- What Get hands back: a name that is the one asked for, if there is one. -/
theorem get_named (b mb : Nat) (L : List DocL) (n : ByteArray) (w : World) (h : St w b mb L) (hn : n.size ≤ 4194304) :
    Calls Tryd.prog 17 #[.pointer (some ⟨b, 0, none⟩), .string n] w (fun e w' => ∃ (nm : ByteArray) (v : Int) (t : ByteArray) (is : Bool), e = .returned (.tuple #[.agg #[.string nm, .int .i64 v, .string t], .bool is]) ∧ ((is = true ∧ nm = n) ∨ is = false) ∧ Below w.heap.size w w') := by
  refine (docsGet_any b mb L n w h hn).mono ?_
  rintro e w' ⟨rfl, hb⟩
  refine ⟨_, _, _, _, rfl, ?_, hb⟩
  cases hh : hasL L n.data.toList with
  | false => exact .inr rfl
  | true =>
    refine .inl ⟨rfl, ?_⟩
    rw [getL_name hh]

/-- The cells of an act's box. -/
def ActBox (w : World) (g : Nat) (a : ActV) (Ae : Option Addr) (ce : Nat) : Prop := w.cell? ⟨g, 0, none⟩ = some (.int .i64 a.k) ∧ w.cell? ⟨g, 1, none⟩ = some (.string a.n) ∧ w.cell? ⟨g, 2, none⟩ = some (.int .i64 a.v) ∧ w.cell? ⟨g, 3, none⟩ = some (.string a.t) ∧ w.cell? ⟨g, 4, none⟩ = some (.slice Ae a.l.length ce)
theorem ActBox.lt {w : World} {g : Nat} {a : ActV} {Ae : Option Addr} {ce : Nat} (h : ActBox w g a Ae ce) : g < w.heap.size := World.block_lt_of_cell? _ _ h.1
theorem ActBox.of {w w' : World} {g : Nat} {a : ActV} {Ae : Option Addr} {ce : Nat} (h : ActBox w g a Ae ce) (hb : w'.heap[g]? = w.heap[g]?) : ActBox w' g a Ae ce := by
  have k : ∀ n, w'.cell? ⟨g, n, none⟩ = w.cell? ⟨g, n, none⟩ := fun n => World.cell?_of_block hb
  obtain ⟨h0, h1, h2, h3, h4⟩ := h
  exact ⟨(k _).trans h0, (k _).trans h1, (k _).trans h2, (k _).trans h3, (k _).trans h4⟩
theorem ActBox.below {w w' : World} {g : Nat} {a : ActV} {Ae : Option Addr} {ce : Nat} (h : ActBox w g a Ae ce) (hb : Below w.heap.size w w') : ActBox w' g a Ae ce := h.of (hb.block g h.lt)
theorem ActBox.new (w : World) (a : ActV) (Ae : Option Addr) (ce : Nat) : ActBox (w.alloc (.cells #[.int .i64 a.k, .string a.n, .int .i64 a.v, .string a.t, .slice Ae a.l.length ce] 27)) w.heap.size a Ae ce := box_new w _ _ _ _ _
/-- The stores, the act's box, the document's box: as they are behind an act. -/
structure Rdy (w0 : World) (b mb r : Nat) (L : List DocL) (A : Option Addr) (c : Nat) (a : ActV) (Ae : Option Addr) (ce ba bd : Nat) (nm : ByteArray) (w : World) : Prop where
  st : St w b mb L
  sm : Sm w r A c L
  act : ActBox w ba a Ae ce
  doc : w.cell? ⟨bd, 0, none⟩ = some (.string nm)
  bel : Below w0.heap.size w0 w
theorem Rdy.below {w0 : World} {b mb r : Nat} {L : List DocL} {A : Option Addr} {c : Nat} {a : ActV} {Ae : Option Addr} {ce ba bd : Nat} {nm : ByteArray} {w w' : World} (h : Rdy w0 b mb r L A c a Ae ce ba bd nm w) (hb : Below w.heap.size w w') : Rdy w0 b mb r L A c a Ae ce ba bd nm w' :=
  ⟨h.st.below hb, h.sm.below hb, h.act.below hb, (hb.cell (World.block_lt_of_cell? _ _ h.doc)).trans h.doc, bth h.bel hb⟩
theorem Rdy.drew {w0 : World} {b mb r : Nat} {L : List DocL} {A : Option Addr} {c : Nat} {a : ActV} {Ae : Option Addr} {ce ba bd : Nat} {nm : ByteArray} {w : World} (h : Rdy w0 b mb r L A c a Ae ce ba bd nm w) : Rdy w0 b mb r L A c a Ae ce ba bd nm w.drew := h.below (Below.refl _ w).drew
theorem Rdy.cells {w0 : World} {b mb r : Nat} {L : List DocL} {A : Option Addr} {c : Nat} {a : ActV} {Ae : Option Addr} {ce ba bd : Nat} {nm : ByteArray} {w : World} (h : Rdy w0 b mb r L A c a Ae ce ba bd nm w) :
    w.cell? ⟨r, 0, none⟩ = some (.slice A L.length c) ∧ w.cell? ⟨bd, 0, none⟩ = some (.string nm) ∧ w.cell? ⟨ba, 1, none⟩ = some (.string a.n) := ⟨h.sm.cell, h.doc, h.act.2.1⟩
theorem rdy_of {w0 w3 w4 : World} {b mb r c : Nat} {L : List DocL} {A : Option Addr} {a : ActV} {Ae : Option Addr} {ce ba : Nat} (hS : St w3 b mb L) (hM : Sm w3 r A c L) (hA : ActBox w3 ba a Ae ce) (hb : Below w0.heap.size w0 w3) (hb4 : Below w3.heap.size w3 w4) (nm : ByteArray) (v t : Value) (ty : TypeId) :
    Rdy w0 b mb r L A c a Ae ce ba w4.heap.size nm (w4.alloc (.cells #[.string nm, v, t] ty)) := by
  have hx := bth hb4 (bal w4 (.cells #[.string nm, v, t] ty))
  exact ⟨hS.below hx, hM.below hx, hA.below hx, by rw [cell_of_row _ _ _ _ _ _ (heap_alloc_new _ _)]; rfl, bth hb hx⟩

/-- The two stores, between two acts. -/
def PlayInv (w : World) (b mb r : Nat) : Prop := ∃ L A c, St w b mb L ∧ Sm w r A c L
theorem PlayInv.below {w w' : World} {b mb r : Nat} (h : PlayInv w b mb r) (hb : Below w.heap.size w w') : PlayInv w' b mb r := by
  obtain ⟨L, A, c, hS, hM⟩ := h
  exact ⟨L, A, c, hS.below hb, hM.below hb⟩
theorem play_start (w : World) (b mb : Nat) (h : St w b mb []) : PlayInv (w.alloc (.cells #[.slice none 0 0] 33)) b mb w.heap.size :=
  ⟨[], none, 0, h.below (bal w _), ⟨heap_alloc_new _ _, fun i hi => absurd hi (Nat.not_lt_zero _), Nat.le_refl _⟩⟩
/-- An act, behind 'fits': what it does. -/
theorem act_step {w0 w w2 : World} {b mb r c : Nat} {L : List DocL} {A : Option Addr} (a : ActV) (Ae : Option Addr) (ce : Nat) (hS : St w b mb L) (hM : Sm w r A c L) (hE : Env w0) (hb : Below w0.heap.size w0 w) (hmb : w0.heap.size ≤ mb) (hr : w0.heap.size ≤ r) (hw : a.Wide) (hf : FitsA a) (hre : RdE w0 Ae a.l)
    (hb2 : Below w.heap.size w w2) {ba : Nat} (hba : w.heap.size ≤ ba) (hA : ActBox w2 ba a Ae ce) :
    Calls Tryd.prog 10 #[.agg #[.int .i64 a.k, .string a.n, .int .i64 a.v, .string a.t, .slice Ae a.l.length ce], .pointer (some ⟨b, 0, none⟩), .pointer (some ⟨r, 0, none⟩)] w2 (fun e w3 => e = .returned (.bool true) ∧ St w3 b mb (actL L a).1 ∧ (∃ A c, Sm w3 r A c (actL L a).1) ∧ ActBox w3 ba a Ae ce ∧ Below w0.heap.size w0 w3 ∧ Kept2 w2 w3 mb r) := by
  have hml := hS.map.lt
  have hrl := hM.lt
  have hbb := bth hb hb2
  have hs := hbb.size
  refine (do_any a Ae ce b mb r c A L w2 (hS.below hb2) (hM.below hb2) (hE.below hbb) hw hf (hre.below hbb) (hre.apart hmb)).mono ?_
  rintro e w3 ⟨rfl, hS3, hM3, hk⟩
  exact ⟨rfl, hS3, hM3, hA.of (hk.2.2 ba hA.lt (by omega) (by omega)), hk.1 _ _ hbb hs hmb hr, hk⟩

set_option maxRecDepth 100000 in
set_option maxHeartbeats 4000000 in
theorem docsPlay_any (A : Option Addr) (c : Nat) (l : List ActV) (w : World) (hE : Env w) (hR : RdA w A l) (hw : ∀ a ∈ l, a.Wide) (hl : l.length ≤ 140737488355328) :
    Calls Tryd.prog 4 #[.slice A l.length c] w (BoolPost true w) := by
  have HL := Lib.hid fun w' he => alive07_any w' he
  have HE := Lib.hid hE
  have HR := Lib.hid hR
  have HW := Lib.hid hw
  have HN := Lib.hid (docsNew_any w)
  clear hE hR hw
  go_enter Tryd.func4, Tryd.ntmps4
  go_wp2_with (go_at_call 7; refine HN.out.mono ?_; rintro e w1 ⟨b, mb, rfl, hS1, hbb, hm, hb1⟩)
  have hst := play_start w1 b mb hS1
  have hb2 := bth hb1 (bal w1 (.cells #[.slice none 0 0] 33))
  have hr := hb1.size
  obtain ⟨r, hrr⟩ : ∃ r, r = w1.heap.size := ⟨_, rfl⟩
  rw [← hrr] at hst hr ⊢
  have HP := Lib.hid hst
  have HB := Lib.hid hb2
  clear hst hb2 hS1 hb1 HN hrr
  go_loopw [5] (fun v wr => ∃ k : Nat, v = .int .i64 k ∧ k ≤ l.length ∧ k ≤ 60 ∧ Below w.heap.size w wr ∧ Hid (PlayInv wr b mb r)) (fun v _ => 60 - (RowKit.intOf v).toNat)
  case atStart => exact ⟨0, rfl, Nat.zero_le _, Nat.zero_le _, HB.out, HP⟩
  case round =>
    obtain ⟨k, rfl, hk, hk60, hbr, hP⟩ := hrel
    clear HP HB
    by_cases hkl : k < l.length
    · have hkz : (k : Int) < (l.length : Int) := by omega
      by_cases h60 : k < 60
      · have h60z : (k : Int) < 60 := by omega
        obtain ⟨L, A2, c2, hS, hM⟩ := hP.out
        obtain ⟨g, o, Ae, ce, hA, hlt, c0, c1, c2', c3, c4, _⟩ := HR.out.below hbr k hkl
        obtain ⟨_, _, Ae', ce', hA', _, _, _, _, _, d4, hre⟩ := HR.out k hkl
        obtain rfl : Ae' = Ae := by
          rw [hA] at hA'
          have e := Option.some.inj hA'
          cases e
          have := (hbr.cell (p := ⟨g, o + k * 5 + 4, none⟩) (World.block_lt_of_cell? _ _ d4)).trans d4
          rw [c4] at this
          cases this
          rfl
        have ha := HW.out _ (List.getElem_mem hkl)
        obtain ⟨a, hae⟩ : ∃ a, a = l[k] := ⟨_, rfl⟩
        rw [← hae] at c0 c1 c2' c3 c4 hre ha
        clear d4 hA' hae
        subst hA
        have hb1 := Lib.hid (ActBox.new wr a Ae' ce)
        have hbal := Lib.hid (bal wr (.cells #[.int .i64 a.k, .string a.n, .int .i64 a.v, .string a.t, .slice Ae' a.l.length ce] 27))
        obtain ⟨d0, d1, d2, d3, d4⟩ := box_new wr a.k a.n a.v a.t (.slice Ae' a.l.length ce)
        have hbw := Lib.hid (bth hbr hbal.out)
        have HRE := Lib.hid hre
        have HA := Lib.hid ha
        by_cases hf : FitsA a
        · have cF := fits_yes a Ae' ce _ ha hf (hre.below hbw.out)
          have HF := Lib.hid cF
          have HD := Lib.hid fun w2 (hb2 : Below (wr.alloc (.cells #[.int .i64 a.k, .string a.n, .int .i64 a.v, .string a.t, .slice Ae' a.l.length ce] 27)).heap.size (wr.alloc (.cells #[.int .i64 a.k, .string a.n, .int .i64 a.v, .string a.t, .slice Ae' a.l.length ce] 27)) w2) =>
            act_step a Ae' ce hS hM HE.out hbr hm hr ha hf hre (bth hbal.out hb2) (Nat.le_refl _) (hb1.out.below hb2)
          have hn := (hf.ok ha).1
          obtain ⟨L', hL'⟩ : ∃ L', L' = (actL L a).1 := ⟨_, rfl⟩
          rw [← hL'] at HD
          have HG := Lib.hid fun w' (h : St w' b mb L') => get_named b mb L' a.n w' h (by omega)
          have HHB := Lib.hid fun w2 (hb2 : Below (wr.alloc (.cells #[.int .i64 a.k, .string a.n, .int .i64 a.v, .string a.t, .slice Ae' a.l.length ce] 27)).heap.size (wr.alloc (.cells #[.int .i64 a.k, .string a.n, .int .i64 a.v, .string a.t, .slice Ae' a.l.length ce] 27)) w2) => hb1.out.below hb2
          clear hS hM hP hL' cF hf hre ha hn
          go_upto_region 13 with (first
            | (go_at_call 17; refine (HG.out _ hS3.out).mono ?_; rintro e w4 ⟨nm, gv, gt, is, rfl, hcase, hb4⟩; have hR4 := Lib.hid (rdy_of hS3.out hM3.out hX3.out hbw3 hb4 nm (.int .i64 gv) (.string gt) 24))
            | (go_at_call 10; refine (HD.out _ hb2).mono ?_; rintro e w3 ⟨rfl, hS3, ⟨A3, c3', hM3⟩, hX3, hbw3, _⟩; obtain ⟨f0, f1, f2, f3, f4⟩ := hX3; replace hX3 := Lib.hid (show ActBox w3 wr.heap.size a Ae' ce from ⟨f0, f1, f2, f3, f4⟩); replace hS3 := Lib.hid hS3; replace hM3 := Lib.hid hM3)
            | (go_at_call 8; refine HF.out.mono ?_; rintro e w2 ⟨rfl, hb2⟩; obtain ⟨e0, e1, e2, e3, e4⟩ := HHB.out _ hb2))
          rcases hcase with ⟨rfl, rfl⟩ | rfl
          · go_region_held3 (fun w' => w'.cell? ⟨r, 0, none⟩ = some (.slice A3 L'.length c3') ∧ w'.cell? ⟨w4.heap.size, 0, none⟩ = some (.string a.n) ∧ w'.cell? ⟨wr.heap.size, 1, none⟩ = some (.string a.n)) (first | exact hR4.out.cells | exact hR5.out.cells | exact hR6.out.cells | exact hR7.out.cells | exact hR8.out.cells) (first
              | (go_at_call 11; refine (docsAll_any b mb L' _ hR4.out.drew.st).mono ?_; rintro e w5 ⟨A5, c5, rfl, hD5, hb5⟩; have hR5 := Lib.hid (hR4.out.drew.below hb5))
              | (go_at_call 16; refine (refSame_any A5 A3 c5 c3' L' L' _ hD5 hR5.out.sm.rd (by have := hR5.out.st.len; omega) (by have := hR5.out.st.len; omega)).mono ?_; rintro e w6 ⟨bs, rfl, hbs, hb6⟩; obtain rfl := hbs rfl; have hR6 := Lib.hid (hR5.out.below hb6))
              | (go_at_call 18; refine (docsSize_any b mb L' _ hR6.out.st).mono ?_; rintro e w7 ⟨rfl, hb7⟩; have hR7 := Lib.hid (hR6.out.below hb7))
              | (go_at_call 19; refine (refSize_any r c3' A3 L' _ hR7.out.sm (by have := hR7.out.st.len; omega) hR7.out.st.ok).mono ?_; rintro e w8 ⟨rfl, hb8⟩; have hR8 := Lib.hid (hR7.out.below hb8)))
            go_wp2_with fail
            go_roundw
            case rel => exact ⟨k + 1, by go_num, by omega, by omega, hR8.out.bel, Lib.hid ⟨L', A3, c3', hR8.out.st, hR8.out.sm⟩⟩
            case measure => simp [RowKit.intOf]; omega
          · refine wp_region_noPanic ?_
            refine wp_region_held_drew (S := (fun w' => w'.cell? ⟨r, 0, none⟩ = some (.slice A3 L'.length c3') ∧ w'.cell? ⟨w4.heap.size, 0, none⟩ = some (.string nm) ∧ w'.cell? ⟨wr.heap.size, 1, none⟩ = some (.string a.n))) (by kernel_rfl) ?_ (fun hHeld => ?_)
            · exact hR4.out.drew.cells
            refine wpAnyH_take (i := 0) (v := ?_) rfl (by kernel_rfl) (by kernel_rfl) (by kernel_rfl) (fun _ _ _ h => h) (Or.inl ⟨by rfl, ?_⟩) hHeld ?_
            rotate_left
            · (intro w hSw; (try dsimp only at hSw); go_simp; try with_reducible rfl)
            (try simp only [List.getElem_toArray, List.getElem_cons_succ, List.getElem_cons_zero, Act.put, List.setIfInBounds_toArray, List.set_cons_zero, List.set_cons_succ])
            refine wpAnyH_take (i := 1) (v := ?_) rfl (by kernel_rfl) (by kernel_rfl) (by kernel_rfl) (fun _ _ _ h => h) (Or.inl ⟨by rfl, ?_⟩) hHeld ?_
            rotate_left
            · (intro w hSw; (try dsimp only at hSw); go_simp; try with_reducible rfl)
            (try simp only [List.getElem_toArray, List.getElem_cons_succ, List.getElem_cons_zero, Act.put, List.setIfInBounds_toArray, List.set_cons_zero, List.set_cons_succ])
            refine wpAnyH_take (i := 2) (v := ?_) rfl (by kernel_rfl) (by kernel_rfl) (by kernel_rfl) (fun _ _ _ h => h) (Or.inl ⟨by rfl, ?_⟩) hHeld ?_
            rotate_left
            · (intro w hSw; (try dsimp only at hSw); go_simp; try with_reducible rfl)
            (try simp only [List.getElem_toArray, List.getElem_cons_succ, List.getElem_cons_zero, Act.put, List.setIfInBounds_toArray, List.set_cons_zero, List.set_cons_succ])
            refine wpAnyH_take (i := 3) (v := ?_) rfl (by kernel_rfl) (by kernel_rfl) (by kernel_rfl) (fun _ _ _ h => h) (Or.inl ⟨by rfl, ?_⟩) hHeld ?_
            rotate_left
            · (intro w hSw; (try dsimp only at hSw); go_simp; try with_reducible rfl)
            (try simp only [List.getElem_toArray, List.getElem_cons_succ, List.getElem_cons_zero, Act.put, List.setIfInBounds_toArray, List.set_cons_zero, List.set_cons_succ])
            refine wpAnyH_take (i := 5) (v := ?_) rfl (by kernel_rfl) (by kernel_rfl) (by kernel_rfl) (fun _ _ _ h => h) (Or.inl ⟨by rfl, ?_⟩) hHeld ?_
            rotate_left
            · (intro w hSw; (try dsimp only at hSw); go_simp; try with_reducible rfl)
            (try simp only [List.getElem_toArray, List.getElem_cons_succ, List.getElem_cons_zero, Act.put, List.setIfInBounds_toArray, List.set_cons_zero, List.set_cons_succ])
            refine wpAnyH_take (i := 6) (v := ?_) rfl (by kernel_rfl) (by kernel_rfl) (by kernel_rfl) (fun _ _ _ h => h) (Or.inl ⟨by rfl, ?_⟩) hHeld ?_
            rotate_left
            · (intro w hSw; (try dsimp only at hSw); go_simp; try with_reducible rfl)
            (try simp only [List.getElem_toArray, List.getElem_cons_succ, List.getElem_cons_zero, Act.put, List.setIfInBounds_toArray, List.set_cons_zero, List.set_cons_succ])
            refine wpAnyH_take (i := 7) (v := ?_) rfl (by kernel_rfl) (by kernel_rfl) (by kernel_rfl) (fun _ _ _ h => h) (Or.inl ⟨by rfl, ?_⟩) hHeld ?_
            rotate_left
            · (intro w hSw; (try dsimp only at hSw); go_simp; try with_reducible rfl)
            (try simp only [List.getElem_toArray, List.getElem_cons_succ, List.getElem_cons_zero, Act.put, List.setIfInBounds_toArray, List.set_cons_zero, List.set_cons_succ])
            refine wpAnyH_take (i := 8) (v := ?_) rfl (by kernel_rfl) (by kernel_rfl) (by kernel_rfl) (fun _ _ _ h => h) (Or.inl ⟨by rfl, ?_⟩) hHeld ?_
            rotate_left
            · (intro w hSw; (try dsimp only at hSw); go_simp; try with_reducible rfl)
            (try simp only [List.getElem_toArray, List.getElem_cons_succ, List.getElem_cons_zero, Act.put, List.setIfInBounds_toArray, List.set_cons_zero, List.set_cons_succ])
            refine wpAnyH_ready (rs := [4]) (by kernel_rfl) (by simp) ?_
            refine AllReadyH.cons rfl (fun K hK => ?_) AllReadyH.nil
            go_simp
            (go_at_call 11; refine (docsAll_any b mb L' _ hR4.out.drew.st).mono ?_; rintro e w5 ⟨A5, c5, rfl, hD5, hb5⟩; have hR5 := Lib.hid (hR4.out.drew.below hb5))
            go_wp2_with fail
            refine hK.out _ _ ?_ (fun hHeld => ?_)
            · exact hR5.out.cells
            clear hK K
            (try simp only [List.getElem_toArray, List.getElem_cons_succ, List.getElem_cons_zero, Act.put, List.setIfInBounds_toArray, List.set_cons_zero, List.set_cons_succ])
            refine wpAnyH_ready (rs := [9]) (by kernel_rfl) (by simp) ?_
            refine AllReadyH.cons rfl (fun K hK => ?_) AllReadyH.nil
            go_simp
            (go_at_call 16; refine (refSame_any A5 A3 c5 c3' L' L' _ hD5 hR5.out.sm.rd (by have := hR5.out.st.len; omega) (by have := hR5.out.st.len; omega)).mono ?_; rintro e w6 ⟨bs, rfl, hbs, hb6⟩; obtain rfl := hbs rfl; have hR6 := Lib.hid (hR5.out.below hb6))
            go_wp2_with fail
            refine hK.out _ _ ?_ (fun hHeld => ?_)
            · exact hR6.out.cells
            clear hK K
            (try simp only [List.getElem_toArray, List.getElem_cons_succ, List.getElem_cons_zero, Act.put, List.setIfInBounds_toArray, List.set_cons_zero, List.set_cons_succ])
            refine wpAnyH_take (i := 10) (v := ?_) rfl (by kernel_rfl) (by kernel_rfl) (by kernel_rfl) (fun _ _ _ h => h) (Or.inl ⟨by rfl, ?_⟩) hHeld ?_
            rotate_left
            · (intro w hSw; (try dsimp only at hSw); go_simp; try with_reducible rfl)
            (try simp only [List.getElem_toArray, List.getElem_cons_succ, List.getElem_cons_zero, Act.put, List.setIfInBounds_toArray, List.set_cons_zero, List.set_cons_succ])
            refine wpAnyH_take (i := 11) (v := ?_) rfl (by kernel_rfl) (by kernel_rfl) (by kernel_rfl) (fun _ _ _ h => h) (Or.inl ⟨by rfl, ?_⟩) hHeld ?_
            rotate_left
            · (intro w hSw; (try dsimp only at hSw); go_simp; try with_reducible rfl)
            (try simp only [List.getElem_toArray, List.getElem_cons_succ, List.getElem_cons_zero, Act.put, List.setIfInBounds_toArray, List.set_cons_zero, List.set_cons_succ])
            refine wpAnyH_take (i := 12) (v := ?_) rfl (by kernel_rfl) (by kernel_rfl) (by kernel_rfl) (fun _ _ _ h => h) (Or.inl ⟨by rfl, ?_⟩) hHeld ?_
            rotate_left
            · (intro w hSw; (try dsimp only at hSw); go_simp; try with_reducible rfl)
            (try simp only [List.getElem_toArray, List.getElem_cons_succ, List.getElem_cons_zero, Act.put, List.setIfInBounds_toArray, List.set_cons_zero, List.set_cons_succ])
            refine wpAnyH_take (i := 13) (v := ?_) rfl (by kernel_rfl) (by kernel_rfl) (by kernel_rfl) (fun _ _ _ h => h) (Or.inl ⟨by rfl, ?_⟩) hHeld ?_
            rotate_left
            · (intro w hSw; (try dsimp only at hSw); go_simp; try with_reducible rfl)
            (try simp only [List.getElem_toArray, List.getElem_cons_succ, List.getElem_cons_zero, Act.put, List.setIfInBounds_toArray, List.set_cons_zero, List.set_cons_succ])
            refine wpAnyH_take (i := 15) (v := ?_) rfl (by kernel_rfl) (by kernel_rfl) (by kernel_rfl) (fun _ _ _ h => h) (Or.inl ⟨by rfl, ?_⟩) hHeld ?_
            rotate_left
            · (intro w hSw; (try dsimp only at hSw); go_simp; try with_reducible rfl)
            (try simp only [List.getElem_toArray, List.getElem_cons_succ, List.getElem_cons_zero, Act.put, List.setIfInBounds_toArray, List.set_cons_zero, List.set_cons_succ])
            refine wpAnyH_ready (rs := [14]) (by kernel_rfl) (by simp) ?_
            refine AllReadyH.cons rfl (fun K hK => ?_) AllReadyH.nil
            go_simp
            (go_at_call 18; refine (docsSize_any b mb L' _ hR6.out.st).mono ?_; rintro e w7 ⟨rfl, hb7⟩; have hR7 := Lib.hid (hR6.out.below hb7))
            go_wp2_with fail
            refine hK.out _ _ ?_ (fun hHeld => ?_)
            · exact hR7.out.cells
            clear hK K
            (try simp only [List.getElem_toArray, List.getElem_cons_succ, List.getElem_cons_zero, Act.put, List.setIfInBounds_toArray, List.set_cons_zero, List.set_cons_succ])
            refine wpAnyH_ready (rs := [16]) (by kernel_rfl) (by simp) ?_
            refine AllReadyH.cons rfl (fun K hK => ?_) AllReadyH.nil
            go_simp
            (go_at_call 19; refine (refSize_any r c3' A3 L' _ hR7.out.sm (by have := hR7.out.st.len; omega) hR7.out.st.ok).mono ?_; rintro e w8 ⟨rfl, hb8⟩; have hR8 := Lib.hid (hR7.out.below hb8))
            go_wp2_with fail
            refine hK.out _ _ ?_ (fun hHeld => ?_)
            · exact hR8.out.cells
            clear hK K
            (try simp only [List.getElem_toArray, List.getElem_cons_succ, List.getElem_cons_zero, Act.put, List.setIfInBounds_toArray, List.set_cons_zero, List.set_cons_succ])
            refine wpAnyH_take (i := 17) (v := ?_) rfl (by kernel_rfl) (by kernel_rfl) (by kernel_rfl) (fun _ _ _ h => h) (Or.inl ⟨by rfl, ?_⟩) hHeld ?_
            rotate_left
            · (intro w hSw; (try dsimp only at hSw); go_simp; try with_reducible rfl)
            (try simp only [List.getElem_toArray, List.getElem_cons_succ, List.getElem_cons_zero, Act.put, List.setIfInBounds_toArray, List.set_cons_zero, List.set_cons_succ])
            refine wpAnyH_take (i := 18) (v := ?_) rfl (by kernel_rfl) (by kernel_rfl) (by kernel_rfl) (fun _ _ _ h => h) (Or.inl ⟨by rfl, ?_⟩) hHeld ?_
            rotate_left
            · (intro w hSw; (try dsimp only at hSw); go_simp; try with_reducible rfl)
            (try simp only [List.getElem_toArray, List.getElem_cons_succ, List.getElem_cons_zero, Act.put, List.setIfInBounds_toArray, List.set_cons_zero, List.set_cons_succ])
            refine wpAnyH_take (i := 19) (v := ?_) rfl (by kernel_rfl) (by kernel_rfl) (by kernel_rfl) (fun _ _ _ h => h) (Or.inl ⟨by rfl, ?_⟩) hHeld ?_
            rotate_left
            · (intro w hSw; (try dsimp only at hSw); go_simp; try with_reducible rfl)
            (try simp only [List.getElem_toArray, List.getElem_cons_succ, List.getElem_cons_zero, Act.put, List.setIfInBounds_toArray, List.set_cons_zero, List.set_cons_succ])
            refine wpAnyH_take (i := 20) (v := ?_) rfl (by kernel_rfl) (by kernel_rfl) (by kernel_rfl) (fun _ _ _ h => h) (Or.inl ⟨by rfl, ?_⟩) hHeld ?_
            rotate_left
            · (intro w hSw; (try dsimp only at hSw); go_simp; try with_reducible rfl)
            (try simp only [List.getElem_toArray, List.getElem_cons_succ, List.getElem_cons_zero, Act.put, List.setIfInBounds_toArray, List.set_cons_zero, List.set_cons_succ])
            refine wpAnyH_take (i := 21) (v := ?_) rfl (by kernel_rfl) (by kernel_rfl) (by kernel_rfl) (fun _ _ _ h => h) (Or.inl ⟨by rfl, ?_⟩) hHeld ?_
            rotate_left
            · (intro w hSw; (try dsimp only at hSw); go_simp; try with_reducible rfl)
            (try simp only [List.getElem_toArray, List.getElem_cons_succ, List.getElem_cons_zero, Act.put, List.setIfInBounds_toArray, List.set_cons_zero, List.set_cons_succ])
            refine wpAnyH_take (i := 22) (v := undef) rfl (by kernel_rfl) (by kernel_rfl) (by kernel_rfl) (fun _ _ _ h => h) (Or.inr ⟨by rfl, rfl⟩) hHeld ?_
            (try simp only [List.getElem_toArray, List.getElem_cons_succ, List.getElem_cons_zero, Act.put, List.setIfInBounds_toArray, List.set_cons_zero, List.set_cons_succ])
            refine wpAnyH_take (i := 23) (v := undef) rfl (by kernel_rfl) (by kernel_rfl) (by kernel_rfl) (fun _ _ _ h => h) (Or.inr ⟨by rfl, rfl⟩) hHeld ?_
            (try simp only [List.getElem_toArray, List.getElem_cons_succ, List.getElem_cons_zero, Act.put, List.setIfInBounds_toArray, List.set_cons_zero, List.set_cons_succ])
            refine wpAnyH_take (i := 24) (v := undef) rfl (by kernel_rfl) (by kernel_rfl) (by kernel_rfl) (fun _ _ _ h => h) (Or.inr ⟨by rfl, rfl⟩) hHeld ?_
            (try simp only [List.getElem_toArray, List.getElem_cons_succ, List.getElem_cons_zero, Act.put, List.setIfInBounds_toArray, List.set_cons_zero, List.set_cons_succ])
            refine wpAnyH_take (i := 25) (v := undef) rfl (by kernel_rfl) (by kernel_rfl) (by kernel_rfl) (fun _ _ _ h => h) (Or.inr ⟨by rfl, rfl⟩) hHeld ?_
            (try simp only [List.getElem_toArray, List.getElem_cons_succ, List.getElem_cons_zero, Act.put, List.setIfInBounds_toArray, List.set_cons_zero, List.set_cons_succ])
            refine wpAnyH_take (i := 26) (v := undef) rfl (by kernel_rfl) (by kernel_rfl) (by kernel_rfl) (fun _ _ _ h => h) (Or.inr ⟨by rfl, rfl⟩) hHeld ?_
            (try simp only [List.getElem_toArray, List.getElem_cons_succ, List.getElem_cons_zero, Act.put, List.setIfInBounds_toArray, List.set_cons_zero, List.set_cons_succ])
            refine wpAnyH_take (i := 27) (v := undef) rfl (by kernel_rfl) (by kernel_rfl) (by kernel_rfl) (fun _ _ _ h => h) (Or.inr ⟨by rfl, rfl⟩) hHeld ?_
            (try simp only [List.getElem_toArray, List.getElem_cons_succ, List.getElem_cons_zero, Act.put, List.setIfInBounds_toArray, List.set_cons_zero, List.set_cons_succ])
            refine wpAnyH_take (i := 28) (v := ?_) rfl (by kernel_rfl) (by kernel_rfl) (by kernel_rfl) (fun _ _ _ h => h) (Or.inl ⟨by rfl, ?_⟩) hHeld ?_
            rotate_left
            · (intro w hSw; (try dsimp only at hSw); go_simp; try with_reducible rfl)
            (try simp only [List.getElem_toArray, List.getElem_cons_succ, List.getElem_cons_zero, Act.put, List.setIfInBounds_toArray, List.set_cons_zero, List.set_cons_succ])
            refine wpAnyH_take (i := 29) (v := ?_) rfl (by kernel_rfl) (by kernel_rfl) (by kernel_rfl) (fun _ _ _ h => h) (Or.inl ⟨by rfl, ?_⟩) hHeld ?_
            rotate_left
            · (intro w hSw; (try dsimp only at hSw); go_simp; try with_reducible rfl)
            (try simp only [List.getElem_toArray, List.getElem_cons_succ, List.getElem_cons_zero, Act.put, List.setIfInBounds_toArray, List.set_cons_zero, List.set_cons_succ])
            refine wpAnyH_done (by kernel_rfl) ?_ _
            refine NoPanic.normal ?_
            go_wp2_with fail
            go_roundw
            case rel => exact ⟨k + 1, by go_num, by omega, by omega, hR8.out.bel, Lib.hid ⟨L', A3, c3', hR8.out.st, hR8.out.sm⟩⟩
            case measure => simp [RowKit.intOf]; omega
        · have cF := fits_no a Ae' ce _ ha hf (hre.below hbw.out)
          have HF := Lib.hid cF
          clear hS hM hre ha cF
          go_wp2_with (go_at_call 8; refine HF.out.mono ?_; rintro e w2 ⟨rfl, hb2⟩)
          go_roundw
          case rel => exact ⟨k + 1, by go_num, by omega, by omega, bth hbw.out hb2, Lib.hid (hP.out.below (bth hbal.out hb2))⟩
          case measure => simp [RowKit.intOf]; omega
      · have h60z : decide ((k : Int) < 60) = false := decide_eq_false (by omega)
        have hA := HL.out wr (HE.out.below hbr)
        have HA := Lib.hid hA
        clear hA hP
        go_wp2_with (go_at_call 9; refine HA.out.mono ?_; rintro e w2 ⟨rfl, hb2⟩)
        go_ret
        exact ⟨rfl, bth hbr hb2⟩
    · have hkz : decide (k < l.length) = false := decide_eq_false (by omega)
      have hA := HL.out wr (HE.out.below hbr)
      have HA := Lib.hid hA
      clear hA hP
      go_wp2_with (go_at_call 9; refine HA.out.mono ?_; rintro e w2 ⟨rfl, hb2⟩)
      go_ret
      exact ⟨rfl, bth hbr hb2⟩
end Go.Proofs.YtcadfaecoldcpaaDoor
