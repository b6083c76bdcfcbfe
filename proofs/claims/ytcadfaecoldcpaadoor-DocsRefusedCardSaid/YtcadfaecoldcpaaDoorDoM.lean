/-
  THE WALK of the statement DocsRise. Conditions: what Env says of the world; the script as it lies in memory, its sizes.
-/
import Derived.Test.YtcadfaecoldcpaaDoorDoL
import Derived.Deep.LoopGhost
set_option linter.unusedVariables false
set_option linter.unusedSimpArgs false
namespace Go.Proofs.YtcadfaecoldcpaaDoor
open Go.RowKit Go.Lib Go.Shelf Go.Maps

/-- Behind an act: the stores, what was before, what is after. -/
structure RInv (w0 : World) (b mb r : Nat) (L L' : List DocL) (Ab Aa : Option Addr) (a : ActV) (Ae : Option Addr) (ce ba : Nat) (w : World) : Prop where
  st : St w b mb L'
  sm : ∃ A c, Sm w r A c L'
  bef : RdD w Ab L
  aft : RdD w Aa L'
  act : ActBox w ba a Ae ce
  bel : Below w0.heap.size w0 w
theorem RInv.below {w0 : World} {b mb r : Nat} {L L' : List DocL} {Ab Aa : Option Addr} {a : ActV} {Ae : Option Addr} {ce ba : Nat} {w w' : World} (h : RInv w0 b mb r L L' Ab Aa a Ae ce ba w) (hb : Below w.heap.size w w') : RInv w0 b mb r L L' Ab Aa a Ae ce ba w' := by
  obtain ⟨A, c, hM⟩ := h.sm
  exact ⟨h.st.below hb, ⟨A, c, hM.below hb⟩, h.bef.below hb, h.aft.below hb, h.act.below hb, bth h.bel hb⟩
theorem RInv.drewN {w0 : World} {b mb r : Nat} {L L' : List DocL} {Ab Aa : Option Addr} {a : ActV} {Ae : Option Addr} {ce ba : Nat} {w : World} (h : RInv w0 b mb r L L' Ab Aa a Ae ce ba w) (n : Nat) : RInv w0 b mb r L L' Ab Aa a Ae ce ba (w.drewN n) := h.below (bdN (Below.refl _ w) n)
theorem RInv.play {w0 : World} {b mb r : Nat} {L L' : List DocL} {Ab Aa : Option Addr} {a : ActV} {Ae : Option Addr} {ce ba : Nat} {w : World} (h : RInv w0 b mb r L L' Ab Aa a Ae ce ba w) : PlayInv w b mb r := by
  obtain ⟨A, c, hM⟩ := h.sm
  exact ⟨L', A, c, h.st, hM⟩
/-- Get of a document that is there. -/
theorem get_there (b mb : Nat) (L : List DocL) (x : DocL) (hx : x ∈ L) (w : World) (h : St w b mb L) :
    Calls Tryd.prog 17 #[.pointer (some ⟨b, 0, none⟩), .string ⟨x.n.toArray⟩] w (fun e w' => e = .returned (.tuple #[.agg #[.string ⟨x.n.toArray⟩, .int .i64 x.v, .string ⟨x.t.toArray⟩], .bool true]) ∧ Below w.heap.size w w') := by
  have := docsGet_any b mb L ⟨x.n.toArray⟩ w h (by have := (h.ok x hx).n; rw [Lib.size_eq]; show x.n.length ≤ _; omega)
  rw [show (⟨x.n.toArray⟩ : ByteArray).data.toList = x.n from rfl, getL_mem h.rise hx, hasL_iff.2 ⟨x, hx, rfl⟩] at this
  exact this
/-- Get of a document that was there. -/
theorem get_was (b mb : Nat) (L : List DocL) (x : DocL) (k : Int) (hk : KeptD L k x) (hn : x.n.length ≤ 40) (w : World) (h : St w b mb L) :
    Calls Tryd.prog 17 #[.pointer (some ⟨b, 0, none⟩), .string ⟨x.n.toArray⟩] w (fun e w' => ∃ (d : DocL) (is : Bool), e = .returned (.tuple #[.agg #[.string ⟨d.n.toArray⟩, .int .i64 d.v, .string ⟨d.t.toArray⟩], .bool is]) ∧ ((is = true ∧ d = x) ∨ (is = true ∧ d.n = x.n ∧ x.v < d.v) ∨ (is = false ∧ k = 4)) ∧ Below w.heap.size w w') := by
  refine (docsGet_any b mb L ⟨x.n.toArray⟩ w h (by rw [Lib.size_eq]; show x.n.length ≤ _; omega)).mono ?_
  rintro e w' ⟨rfl, hb⟩
  refine ⟨_, _, rfl, ?_, hb⟩
  rw [show (⟨x.n.toArray⟩ : ByteArray).data.toList = x.n from rfl]
  rcases hk with ⟨h1, h2⟩ | ⟨h1, h2⟩
  · rcases h2 with h2 | h2
    · exact .inl ⟨h1, h2⟩
    · exact .inr (.inl ⟨h1, getL_name h1, h2⟩)
  · exact .inr (.inr ⟨h1, h2⟩)

set_option maxRecDepth 100000 in
set_option maxHeartbeats 4000000 in
theorem docsRise_any (A : Option Addr) (c : Nat) (l : List ActV) (w : World) (hE : Env w) (hR : RdA w A l) (hw : ∀ a ∈ l, a.Wide) (hl : l.length ≤ 140737488355328) :
    Calls Tryd.prog 5 #[.slice A l.length c] w (BoolPost true w) := by
  have HL := Lib.hid fun w' he => alive07_any w' he
  have HE := Lib.hid hE
  have HR := Lib.hid hR
  have HW := Lib.hid hw
  have HN := Lib.hid (docsNew_any w)
  clear hE hR hw
  go_enter Tryd.func5, Tryd.ntmps5
  go_wp2_with (go_at_call 7; refine HN.out.mono ?_; rintro e w1 ⟨b, mb, rfl, hS1, hbb, hm, hb1⟩)
  have hst := play_start w1 b mb hS1
  have hb2 := bth hb1 (bal w1 (.cells #[.slice none 0 0] 33))
  have hr := hb1.size
  obtain ⟨r, hrr⟩ : ∃ r, r = w1.heap.size := ⟨_, rfl⟩
  rw [← hrr] at hst hr ⊢
  have HP := Lib.hid hst
  have HB := Lib.hid hb2
  clear hst hb2 hS1 hb1 HN hrr
  go_loopg [5] 60 (fun gn v wr => ∃ k : Nat, v = .int .i64 k ∧ k ≤ l.length ∧ k ≤ 60 ∧ gn = 60 - k ∧ Below w.heap.size w wr ∧ Hid (PlayInv wr b mb r))
  case atStart => exact ⟨0, rfl, Nat.zero_le _, Nat.zero_le _, rfl, HB.out, HP⟩
  case round =>
    obtain ⟨k, rfl, hk, hk60, rfl, hbr, hP⟩ := hrel
    clear HP HB
    by_cases hkl : k < l.length
    · have hkz : (k : Int) < (l.length : Int) := by omega
      by_cases h60 : k < 60
      · have h60z : (k : Int) < 60 := by omega
        obtain ⟨L, A2, c2, hS, hM⟩ := hP.out
        obtain ⟨g, o, Ae, ce, hA, hlt, c0, c1, c2', c3, c4, _⟩ := HR.out.below hbr k hkl
        obtain ⟨_, _, Ae', ce', hA', _, _, _, _, _, d4, hre⟩ := HR.out k hkl
        obtain rfl : Ae' = Ae := by
          rw [hA] at hA'
          have e := Option.some.inj hA'
          cases e
          have := (hbr.cell (p := ⟨g, o + k * 5 + 4, none⟩) (World.block_lt_of_cell? _ _ d4)).trans d4
          rw [c4] at this
          cases this
          rfl
        have ha := HW.out _ (List.getElem_mem hkl)
        obtain ⟨a, hae⟩ : ∃ a, a = l[k] := ⟨_, rfl⟩
        rw [← hae] at c0 c1 c2' c3 c4 hre ha
        clear d4 hA' hae
        subst hA
        have hb1 := Lib.hid (ActBox.new wr a Ae' ce)
        have hbal := Lib.hid (bal wr (.cells #[.int .i64 a.k, .string a.n, .int .i64 a.v, .string a.t, .slice Ae' a.l.length ce] 27))
        obtain ⟨d0, d1, d2, d3, d4⟩ := box_new wr a.k a.n a.v a.t (.slice Ae' a.l.length ce)
        have hbw := Lib.hid (bth hbr hbal.out)
        have HRE := Lib.hid hre
        have HA := Lib.hid ha
        by_cases hf : FitsA a
        · have cF := fits_yes a Ae' ce _ ha hf (hre.below hbw.out)
          have HF := Lib.hid cF
          have HD := Lib.hid fun w2 (hb2 : Below wr.heap.size wr w2) hX => act_step (ba := wr.heap.size) a Ae' ce hS hM HE.out hbr hm hr ha hf hre hb2 (Nat.le_refl _) hX
          obtain ⟨L', hL'⟩ : ∃ L', L' = (actL L a).1 := ⟨_, rfl⟩
          have HK := Lib.hid fun x (hx : x ∈ L) => actL_kept hS.rise hx a
          have HOK := Lib.hid hS.ok
          have h8L := hS.len
          rw [← hL'] at HD HK
          have HHS := Lib.hid hS
          have HHM := Lib.hid hM
          clear hS hM hP hL' cF hf hre ha
          go_wp2_with (first
            | (go_at_call 11; refine (docsAll_any b mb L' _ hS4.out).mono ?_; rintro e w5 ⟨Aa, ca, rfl, hD5, hb5⟩)
            | (go_at_call 10; refine (HD.out _ (bth (bth hbal.out hb2) hb3) hX3.out).mono ?_; rintro e w4 ⟨rfl, hS4, ⟨A4, c4', hM4⟩, hX4, hbw4, hk4⟩; have h8 : decide ((8 : Int) < (L'.length : Int)) = false := decide_eq_false (by have := hS4.len; omega); replace hS4 := Lib.hid hS4; replace hM4 := Lib.hid hM4; replace hX4 := Lib.hid hX4; replace hk4 := Lib.hid hk4)
            | (go_at_call 11; refine (docsAll_any b mb L _ (HHS.out.below (bth hbal.out hb2))).mono ?_; rintro e w3 ⟨Ab, cb, rfl, hD3, hb3⟩; have hX3 := Lib.hid (hX2.out.below hb3); obtain ⟨f0, f1, f2, f3, f4⟩ := hX3.out; replace hD3 := Lib.hid hD3)
            | (go_at_call 8; refine HF.out.mono ?_; rintro e w2 ⟨rfl, hb2⟩; have hX2 := Lib.hid (hb1.out.below hb2); obtain ⟨e0, e1, e2, e3, e4⟩ := hX2.out))
          have hI : RInv w b mb r L L' Ab Aa a Ae' ce wr.heap.size w5 := by
            have hx := bth (bth hbal.out hb2) hb3
            have hbd := hD3.out.kept2 hk4.out (rdD_nmap hD3.out (HHS.out.below hx).map) (rdD_nr hD3.out (HHM.out.below hx))
            exact ⟨hS4.out.below hb5, ⟨A4, c4', hM4.out.below hb5⟩, hbd.below hb5, hD5, hX4.out.below hb5, bth hbw4 hb5⟩
          have HI := Lib.hid hI
          obtain ⟨ba, hba⟩ : ∃ ba, ba = wr.heap.size := ⟨_, rfl⟩
          rw [← hba] at HI ⊢
          clear hI hb5 hD5 hS4 hM4 hX4 hk4 hbw4 h8 hD3 hb3 hX3 f0 f1 f2 f3 f4 hX2 e0 e1 e2 e3 e4 hb2 HF HD HHS HHM hbw hbal hb1 d0 d1 d2 d3 d4 c0 c1 c2' c3 c4 hlt HRE HA hba hbr
          go_loopg [10] L'.length (fun gn v wi => ∃ i : Nat, v = .int .i64 i ∧ i ≤ L'.length ∧ gn = L'.length - i ∧ Hid (RInv w b mb r L L' Ab Aa a Ae' ce ba wi))
          case atStart => exact ⟨0, rfl, Nat.zero_le _, rfl, HI⟩
          case round =>
            obtain ⟨i, rfl, hi, rfl, hI⟩ := hrel
            clear HI
            by_cases hil : i < L'.length
            · have hiz : (i : Int) < (L'.length : Int) := by omega
              have hmem := List.getElem_mem hil
              obtain ⟨g2, o2, hAa, hlt2, p0, p1, p2⟩ := hI.out.aft i hil
              have hbefore : ¬ 0 < i ∨ ∃ (yn xn : List UInt8), 0 < i ∧ xn = (L'[i]).n ∧ wr.cell? ⟨g2, o2 + (i - 1) * 3, none⟩ = some (.string ⟨yn.toArray⟩) ∧ Op.bytesLess yn xn = true := by
                cases i with
                | zero => exact .inl (by omega)
                | succ j =>
                  obtain ⟨g3, o3, hA3, _, q0, _, _⟩ := hI.out.aft j (by omega)
                  rw [hAa] at hA3
                  obtain ⟨rfl, rfl⟩ : g2 = g3 ∧ o2 = o3 := by injection hA3 with h1; injection h1 with h2 h3; exact ⟨h2, h3⟩
                  refine .inr ⟨_, _, by omega, rfl, by rw [Nat.add_sub_cancel]; exact q0, ?_⟩
                  rw [bytes_less]
                  exact (List.pairwise_iff_getElem.1 hI.out.st.rise) j (j + 1) (by omega) hil (by omega)
              have HG := Lib.hid fun x (hx : x ∈ L') w' h => get_there b mb L' x hx w' h
              obtain ⟨x, hx⟩ : ∃ x, x = L'[i] := ⟨_, rfl⟩
              rw [← hx] at hmem p0 p1 p2 hbefore
              have HGx := Lib.hid fun w' h => HG.out x hmem w' h
              obtain ⟨xn, xv, xt⟩ := x
              simp only at p0 p1 p2 HGx hbefore
              clear hx hmem HG
              subst hAa
              have hlen' := hI.out.st.len
              rcases hbefore with hi0 | ⟨yn, xm, hi0, hxm, q0, hless⟩
              · have hjz : decide ((0 : Int) < (i : Int)) = false := decide_eq_false (by omega)
                go_upto_region 19 with fail
                go_quiet (fail)
                have hdr := bdN (Below.refl wr.heap.size wr) nq
                have hI2 := Lib.hid (hI.out.drewN nq)
                have r0 := (hdr.cell (p := ⟨g2, o2 + i * 3, none⟩) hlt2).trans p0
                have r1 := (hdr.cell (p := ⟨g2, o2 + i * 3 + 1, none⟩) hlt2).trans p1
                have r2 := (hdr.cell (p := ⟨g2, o2 + i * 3 + 2, none⟩) hlt2).trans p2
                have hlt3 : g2 < (wr.drewN nq).heap.size := by have := hdr.size; omega
                clear p0 p1 p2 hdr hI hlt2
                generalize wr.drewN nq = W at *
                go_upto_region 22 with (go_at_call 17; refine (HGx.out _ hI2.out.st).mono ?_; rintro e w6 ⟨rfl, hb6⟩; have hx7 := bth hb6 (bal w6 (.cells #[.string ⟨xn.toArray⟩, .int .i64 xv, .string ⟨xt.toArray⟩] 24)); have s0 := (hx7.cell (p := ⟨g2, o2 + i * 3, none⟩) hlt3).trans r0; have s1 := (hx7.cell (p := ⟨g2, o2 + i * 3 + 1, none⟩) hlt3).trans r1; have s2 := (hx7.cell (p := ⟨g2, o2 + i * 3 + 2, none⟩) hlt3).trans r2; obtain ⟨x0, x1, x2, _⟩ := box3 (Below.refl (w6.alloc (.cells #[.string ⟨xn.toArray⟩, .int .i64 xv, .string ⟨xt.toArray⟩] 24)).heap.size (w6.alloc (.cells #[.string ⟨xn.toArray⟩, .int .i64 xv, .string ⟨xt.toArray⟩] 24))); have hI3 := Lib.hid (hI2.out.below hx7); clear hx7)
                go_quiet (fail)
                go_wp2_with fail
                go_roundg (L'.length - (i + 1))
                case measure => omega
                case rel => exact ⟨i + 1, by go_num, by omega, rfl, Lib.hid (hI3.out.drewN _)⟩
              · rw [hxm] at hless
                clear hxm
                have hjz : (0 : Int) < (i : Int) := by omega
                have hj1 : (i : Int) - 1 < (L'.length : Int) := by omega
                have hj2 : (0 : Int) ≤ (i : Int) - 1 := by omega
                have hjw : IntKind.i64.wrap ((i : Int) - 1) = (i : Int) - 1 := IntWalk.i64_in _ ⟨by omega, by omega⟩
                have hjt : ((i : Int) - 1).toNat = i - 1 := by omega
                go_upto_region 19 with fail
                go_quiet (fail)
                clear q0 hless
                have hdr := bdN (Below.refl wr.heap.size wr) nq
                have hI2 := Lib.hid (hI.out.drewN nq)
                have r0 := (hdr.cell (p := ⟨g2, o2 + i * 3, none⟩) hlt2).trans p0
                have r1 := (hdr.cell (p := ⟨g2, o2 + i * 3 + 1, none⟩) hlt2).trans p1
                have r2 := (hdr.cell (p := ⟨g2, o2 + i * 3 + 2, none⟩) hlt2).trans p2
                have hlt3 : g2 < (wr.drewN nq).heap.size := by have := hdr.size; omega
                clear p0 p1 p2 hdr hI hlt2
                generalize wr.drewN nq = W at *
                go_upto_region 22 with (go_at_call 17; refine (HGx.out _ hI2.out.st).mono ?_; rintro e w6 ⟨rfl, hb6⟩; have hx7 := bth hb6 (bal w6 (.cells #[.string ⟨xn.toArray⟩, .int .i64 xv, .string ⟨xt.toArray⟩] 24)); have s0 := (hx7.cell (p := ⟨g2, o2 + i * 3, none⟩) hlt3).trans r0; have s1 := (hx7.cell (p := ⟨g2, o2 + i * 3 + 1, none⟩) hlt3).trans r1; have s2 := (hx7.cell (p := ⟨g2, o2 + i * 3 + 2, none⟩) hlt3).trans r2; obtain ⟨x0, x1, x2, _⟩ := box3 (Below.refl (w6.alloc (.cells #[.string ⟨xn.toArray⟩, .int .i64 xv, .string ⟨xt.toArray⟩] 24)).heap.size (w6.alloc (.cells #[.string ⟨xn.toArray⟩, .int .i64 xv, .string ⟨xt.toArray⟩] 24))); have hI3 := Lib.hid (hI2.out.below hx7); clear hx7)
                go_quiet (fail)
                go_wp2_with fail
                go_roundg (L'.length - (i + 1))
                case measure => omega
                case rel => exact ⟨i + 1, by go_num, by omega, rfl, Lib.hid (hI3.out.drewN _)⟩
            · have hiz : decide (i < L'.length) = false := decide_eq_false (by omega)
              go_wp2_with fail
              have hI1 := hI
              clear hI
              go_loopg [13] L.length (fun gn v wi => ∃ i : Nat, v = .int .i64 i ∧ i ≤ L.length ∧ gn = L.length - i ∧ Hid (RInv w b mb r L L' Ab Aa a Ae' ce ba wi))
              case atStart => exact ⟨0, rfl, Nat.zero_le _, rfl, hI1⟩
              case round =>
                clear hI1 hiz hi hil
                obtain ⟨i, rfl, hi, rfl, hI⟩ := hrel
                by_cases hil : i < L.length
                · have hiz : (i : Int) < (L.length : Int) := by omega
                  have hmem := List.getElem_mem hil
                  obtain ⟨g2, o2, hAa, hlt2, p0, p1, p2⟩ := hI.out.bef i hil
                  obtain ⟨x, hx⟩ : ∃ x, x = L[i] := ⟨_, rfl⟩
                  rw [← hx] at hmem p0 p1 p2
                  have HGx := Lib.hid fun w' h => get_was b mb L' x a.k (HK.out x hmem) (HOK.out x hmem).n w' h
                  obtain ⟨xn, xv, xt⟩ := x
                  simp only at p0 p1 p2 HGx
                  clear hx hmem
                  subst hAa
                  obtain ⟨z0, _, _, _, _⟩ := hI.out.act
                  have hba := hI.out.act.lt
                  go_upto_region 28 with (go_at_call 17; refine (HGx.out _ hI.out.st).mono ?_; rintro e w6 ⟨⟨dn, dv, dt⟩, is, rfl, hcase, hb6⟩; simp only at hcase; have hx7 := bth hb6 (bal w6 (.cells #[.string ⟨dn.toArray⟩, .int .i64 dv, .string ⟨dt.toArray⟩] 24)); have s0 := (hx7.cell (p := ⟨g2, o2 + i * 3, none⟩) hlt2).trans p0; have s1 := (hx7.cell (p := ⟨g2, o2 + i * 3 + 1, none⟩) hlt2).trans p1; have s2 := (hx7.cell (p := ⟨g2, o2 + i * 3 + 2, none⟩) hlt2).trans p2; have s3 := (hx7.cell (p := ⟨ba, 0, none⟩) hba).trans z0; obtain ⟨x0, x1, x2, _⟩ := box3 (Below.refl (w6.alloc (.cells #[.string ⟨dn.toArray⟩, .int .i64 dv, .string ⟨dt.toArray⟩] 24)).heap.size (w6.alloc (.cells #[.string ⟨dn.toArray⟩, .int .i64 dv, .string ⟨dt.toArray⟩] 24))); have hI3 := Lib.hid (hI.out.below hx7); clear hx7)
                  rcases hcase with ⟨rfl, hd⟩ | ⟨rfl, hd, hv⟩ | ⟨rfl, hk4⟩
                  · obtain ⟨rfl, rfl, rfl⟩ : dn = xn ∧ dv = xv ∧ dt = xt := by injection hd with e1 e2 e3; exact ⟨e1, e2, e3⟩
                    go_quiet (fail)
                    go_wp2_with fail
                    go_roundg (L.length - (i + 1))
                    case measure => omega
                    case rel => exact ⟨i + 1, by go_num, by omega, rfl, Lib.hid (hI3.out.drewN _)⟩
                  · subst hd
                    have hne : (dv == xv) = false := beq_eq_false_iff_ne.2 (by omega)
                    have hle : decide (dv ≤ xv) = false := decide_eq_false (by omega)
                    go_quiet (fail)
                    go_wp2_with fail
                    go_roundg (L.length - (i + 1))
                    case measure => omega
                    case rel => exact ⟨i + 1, by go_num, by omega, rfl, Lib.hid (hI3.out.drewN _)⟩
                  · go_quiet (fail)
                    go_wp2_with fail
                    go_roundg (L.length - (i + 1))
                    case measure => omega
                    case rel => exact ⟨i + 1, by go_num, by omega, rfl, Lib.hid (hI3.out.drewN _)⟩
                · have hiz : decide (i < L.length) = false := decide_eq_false (by omega)
                  go_wp2_with fail
                  go_roundg (60 - (k + 1))
                  case measure => omega
                  case rel => exact ⟨k + 1, by go_num, by omega, by omega, rfl, hI.out.bel, Lib.hid hI.out.play⟩
        · have cF := fits_no a Ae' ce _ ha hf (hre.below hbw.out)
          have HF := Lib.hid cF
          clear hS hM hre ha cF
          go_wp2_with (go_at_call 8; refine HF.out.mono ?_; rintro e w2 ⟨rfl, hb2⟩)
          go_roundg (60 - (k + 1))
          case measure => omega
          case rel => exact ⟨k + 1, by go_num, by omega, by omega, rfl, bth hbw.out hb2, Lib.hid (hP.out.below (bth hbal.out hb2))⟩
      · have h60z : decide ((k : Int) < 60) = false := decide_eq_false (by omega)
        have hA := HL.out wr (HE.out.below hbr)
        have HA := Lib.hid hA
        clear hA hP
        go_wp2_with (go_at_call 9; refine HA.out.mono ?_; rintro e w2 ⟨rfl, hb2⟩)
        go_ret
        exact ⟨rfl, bth hbr hb2⟩
    · have hkz : decide (k < l.length) = false := decide_eq_false (by omega)
      have hA := HL.out wr (HE.out.below hbr)
      have HA := Lib.hid hA
      clear hA hP
      go_wp2_with (go_at_call 9; refine HA.out.mono ?_; rintro e w2 ⟨rfl, hb2⟩)
      go_ret
      exact ⟨rfl, bth hbr hb2⟩
end Go.Proofs.YtcadfaecoldcpaaDoor
