/-
  THE WALK of edits.Apply. Conditions: stated at each.
-/
import Derived.Test.YtcadfaecoldcpaaDoorEdC
set_option linter.unusedVariables false
set_option linter.unusedSimpArgs false
namespace Go.Proofs.YtcadfaecoldcpaaDoor
open Go.RowKit Go.Lib Go.Shelf

/-- A text, and the error. -/
def ApPost (p : List UInt8 × Nat) (w : World) (e : Ending) (w' : World) : Prop := ∃ x : ByteArray, x.data.toList = p.1 ∧ e = .returned (.tuple #[.string x, .int .i64 ((p.2 : Nat) : Int)]) ∧ Below w.heap.size w w'
theorem edOne_le {l : List UInt8} {e : EdL} : (edOne l e).1.length ≤ 16384 := by
  unfold edOne
  split
  · rename_i h
    split
    · simp
    · rename_i h2
      obtain ⟨_, _, _, _, hac⟩ := edFind_ok h
      have := edText_length l e.t _ _ hac (edFind_le h)
      simp only
      omega
  · simp

set_option maxRecDepth 100000 in
set_option maxHeartbeats 1000000 in
theorem edApply_any (s : ByteArray) (A : Option Addr) (c : Nat) (l : List EdV) (w : World) (hs : s.size ≤ 4194304) (hl : l.length ≤ 1048576) (hok : ∀ e ∈ l, e.Ok) (hr : RdE w A l) (hE : Env w) :
    Calls Tryd.prog 30 #[.string s, .slice A l.length c] w (ApPost (applyL s.data.toList (l.map EdV.l)) w) := by
  have cR := right_any s w (by omega) hE.1
  by_cases hv : validD s.data.toList = true
  · rw [hv] at cR
    have e : applyL s.data.toList (l.map EdV.l) = applyGo s.data.toList (l.map EdV.l) := by unfold applyL; rw [if_pos hv]
    rw [e]
    have HE := Lib.hid hE
    have HR := Lib.hid hr
    have HOK := Lib.hid hok
    clear hE hr hok e hv
    go_enter Tryd.func30, Tryd.ntmps30
    go_wp2_with (go_at_call 41; refine cR.mono ?_; rintro e w1 ⟨rfl, hb1⟩)
    go_loopw [0, 16] (fun a b wr => ∃ (cur : ByteArray) (i : Nat), a = .string cur ∧ b = .int .i64 i ∧ i ≤ l.length ∧ cur.size ≤ 4194304 ∧ Below w.heap.size w wr ∧ applyGo s.data.toList (l.map EdV.l) = applyGo cur.data.toList ((l.drop i).map EdV.l)) (fun _ b _ => l.length - (RowKit.intOf b).toNat)
    case atStart => exact ⟨s, 0, rfl, rfl, Nat.zero_le _, hs, hb1, rfl⟩
    case round =>
      obtain ⟨cur, i, rfl, rfl, hi, hcs, hbr, hap⟩ := hrel
      by_cases hin : i < l.length
      · have hiz : (i : Int) < (l.length : Int) := by omega
        obtain ⟨g, o, hA, hlt, c0, c1, c2, c3, c4⟩ := HR.out.below hbr i hin
        subst hA
        have hd : l.drop i = l[i] :: l.drop (i + 1) := List.drop_eq_getElem_cons hin
        have hoki := HOK.out (l[i]) (List.getElem_mem hin)
        obtain ⟨⟨p, q, er⟩, hp⟩ : ∃ z, z = (edOne cur.data.toList (l[i]).l).2 := ⟨_, rfl⟩
        have cO : ∀ w', Env w' → Calls Tryd.prog 42 #[.string cur, .agg #[.int .i64 (l[i]).fl, .int .i64 (l[i]).fu, .int .i64 (l[i]).tl, .int .i64 (l[i]).tu, .string (l[i]).t]] w' (OnePost (edB cur (l[i]).l) (p, q, er) w') := fun w' he => by
          rw [hp]
          exact edOne_any cur (l[i]).fl (l[i]).fu (l[i]).tl (l[i]).tu (l[i]).t w' hcs hoki.t hoki.fu hoki.tu he
        have HO := Lib.hid cO
        have hm : (l.drop i).map EdV.l = (l[i]).l :: (l.drop (i + 1)).map EdV.l := by rw [hd, List.map_cons]
        rw [hm] at hap
        by_cases h1 : er = 0
        · subst h1
          have h1 : (edOne cur.data.toList (l[i]).l).2.2.2 = 0 := by rw [← hp]
          rw [applyGo_ok h1, ← edB_data] at hap
          have hle : (edB cur (l[i]).l).size ≤ 4194304 := by
            rw [size_eq, edB_data]
            exact Nat.le_trans edOne_le (by decide)
          have HAP := Lib.hid hap
          have HLE := Lib.hid hle
          clear cO hd hap hm hp h1 hle
          generalize edB cur (l[i]).l = nx at HO HAP HLE
          go_wp2_with (go_at_call 42; refine (HO.out _ (HE.out.below (bth hbr (bal _ _)))).mono ?_; rintro e w2 ⟨rfl, hb2⟩; replace hb2 := bth (bth hbr (bal _ _)) hb2)
          go_roundw
          case rel => exact ⟨nx, i + 1, rfl, by go_num, by omega, HLE.out, bth hb2 (bal _ _), HAP.out⟩
          case measure => simp [RowKit.intOf]; omega
        · have her : ((er : Int) == 0) = false := by
            rw [beq_eq_false_iff_ne]
            omega
          have h2 : ¬(edOne cur.data.toList (l[i]).l).2.2.2 = 0 := by rw [← hp]; exact h1
          rw [applyGo_no h2, ← hp] at hap
          have HAP := Lib.hid hap
          clear cO hd hap hm hp h1 h2
          generalize edB cur (l[i]).l = nx at HO
          go_wp2_with (go_at_call 42; refine (HO.out _ (HE.out.below (bth hbr (bal _ _)))).mono ?_; rintro e w2 ⟨rfl, hb2⟩; replace hb2 := bth (bth hbr (bal _ _)) hb2)
          rw [HAP.out]
          (try simp only [Exit.inBlock, Exit.then])
          go_ret2
          exact ⟨⟨#[]⟩, rfl, rfl, bth hb2 (bal _ _)⟩
      · have hie : i = l.length := by omega
        subst hie
        rw [List.drop_length, List.map_nil] at hap
        have HAP := Lib.hid hap
        clear hap
        go_wp2
        rw [HAP.out]
        go_ret2
        exact ⟨cur, rfl, rfl, hbr⟩
  · have e : applyL s.data.toList (l.map EdV.l) = ([], 11) := by unfold applyL; rw [if_neg hv]
    rw [e]
    rw [show validD s.data.toList = false by simpa using hv] at cR
    clear hE hr hok e hv
    go_enter Tryd.func30, Tryd.ntmps30
    go_wp2_with (go_at_call 41; refine cR.mono ?_; rintro e w1 ⟨rfl, hb1⟩)
    (try simp only [Exit.inBlock, Exit.then])
    go_ret2
    exact ⟨⟨#[]⟩, rfl, rfl, hb1⟩
end Go.Proofs.YtcadfaecoldcpaaDoor
