/-
  THE WALK of the statement EditsParts. Conditions: what Env says of the world; the arguments. bounds.
-/
import Derived.Test.YtadkjeefiacdbaaDoorEdM
set_option linter.unusedVariables false
set_option linter.unusedSimpArgs false
namespace Go.Proofs.YtadkjeefiacdbaaDoor
open Go.RowKit Go.Lib Go.Shelf

theorem applyGo_le : ∀ (es : List EdL) (l : List UInt8), (applyGo l es).1.length ≤ max l.length 16384
  | [], l => Nat.le_max_left _ _
  | e :: r, l => by
    by_cases h : (edOne l e).2.2.2 = 0
    · rw [applyGo_ok h]
      have h1 := applyGo_le r (edOne l e).1
      have h2 := edOne_le (l := l) (e := e)
      omega
    · rw [applyGo_no h]
      exact Nat.zero_le _
theorem applyL_le (es : List EdL) (l : List UInt8) : (applyL l es).1.length ≤ max l.length 16384 := by
  unfold applyL
  split
  · exact applyGo_le es l
  · exact Nat.zero_le _
theorem RdE.take {w : World} {A : Option Addr} {l : List EdV} (h : RdE w A l) (k : Nat) : RdE w A (l.take k) := by
  intro i hi
  have hi2 : i < l.length := by rw [List.length_take] at hi; omega
  obtain ⟨g, o, h1⟩ := h i hi2
  rw [List.getElem_take]
  exact ⟨g, o, h1⟩
theorem RdE.drop {w : World} {g o : Nat} {l : List EdV} (h : RdE w (some ⟨g, o, none⟩) l) (k : Nat) : RdE w (some ⟨g, o + k * 5, none⟩) (l.drop k) := by
  intro i hi
  have hi2 : k + i < l.length := by rw [List.length_drop] at hi; omega
  obtain ⟨g', o', h1, h2, c⟩ := h (k + i) hi2
  cases h1
  rw [List.getElem_drop]
  refine ⟨g, o + k * 5, rfl, h2, ?_⟩
  rw [show o + (k + i) * 5 = o + k * 5 + i * 5 by omega] at c
  exact c
theorem RdE.nil (w : World) (A : Option Addr) : RdE w A [] := fun i hi => absurd hi (by simp)

theorem ap_lit {r : List UInt8 × Nat} {w : World} : ∀ e w', ApPost r w e w' → e = .returned (.tuple #[.string ⟨r.1.toArray⟩, .int .i64 ((r.2 : Nat) : Int)]) ∧ Below w.heap.size w w' := by
  rintro e w' ⟨x, hx, rfl, hb⟩
  obtain rfl : x = ⟨r.1.toArray⟩ := data_inj (by rw [hx])
  exact ⟨rfl, hb⟩
theorem rdE_tail {w : World} {A : Option Addr} {c k : Nat} {l : List EdV} (h : RdE w A l) (hlc : l.length ≤ c) (hk : k ≤ l.length) : RdE w (if c = k then A else Option.map (fun x => x.add (k * 5)) A) (l.drop k) := by
  by_cases hn : k = l.length
  · rw [List.drop_of_length_le (by omega)]
    exact RdE.nil _ _
  · rw [if_neg (by omega)]
    obtain ⟨g, o, hA, _⟩ := h k (by omega)
    subst hA
    rw [show Option.map (fun x => Addr.add x (k * 5)) (some (⟨g, o, none⟩ : Addr)) = some ((⟨g, o, none⟩ : Addr).add (k * 5)) from rfl, add_lit]
    exact h.drop k

set_option maxRecDepth 100000 in
set_option maxHeartbeats 1000000 in
theorem editsParts_any (s : ByteArray) (A : Option Addr) (c : Nat) (l : List EdV) (i : Int) (w : World) (hs : s.size ≤ 140737488355328) (hl : l.length ≤ 140737488355328) (hlc : l.length ≤ c) (hok : ∀ e ∈ l, e.Wide) (hr : RdE w A l) (hi : -9223372036854775808 ≤ i ∧ i ≤ 9223372036854775807) (hE : Env w) :
    Calls Tryd.prog 10 #[.string s, .slice A l.length c, .int .i64 i] w (BoolPost true w) := by
  have HL := Lib.hid fun w' he => alive06_any w' he
  have HE := Lib.hid hE
  by_cases h : FitsOk s l
  · have cF := fits06_yes s A c l w hs hl hok hr h
    obtain ⟨h1, h2, h3⟩ := fits_ok h hok
    have HF := Lib.hid cF
    by_cases hin : 0 ≤ i ∧ i ≤ (l.length : Int)
    · obtain ⟨k, rfl⟩ : ∃ k : Nat, i = k := ⟨i.toNat, by omega⟩
      have hk : k ≤ l.length := by omega
      have hkz : (k : Int) ≤ (l.length : Int) := by omega
      have hkz2 : decide ((l.length : Int) < (k : Int)) = false := decide_eq_false (by omega)
      have hkz3 : decide ((k : Int) < 0) = false := decide_eq_false (by omega)
      have hlt : (l.take k).length = k := by rw [List.length_take]; omega
      have hld : (l.drop k).length = l.length - k := by rw [List.length_drop]
      obtain ⟨M, hM⟩ : ∃ M, M = l.map EdV.l := ⟨_, rfl⟩
      have hM1 : (l.take k).map EdV.l = M.take k := by rw [hM, List.map_take]
      have hM2 : (l.drop k).map EdV.l = M.drop k := by rw [hM, List.map_drop]
      obtain ⟨r1, hr1⟩ : ∃ r, r = applyL s.data.toList M := ⟨_, rfl⟩
      obtain ⟨r2, hr2⟩ : ∃ r, r = applyL s.data.toList (M.take k) := ⟨_, rfl⟩
      obtain ⟨r3, hr3⟩ : ∃ r, r = applyL r2.1 (M.drop k) := ⟨_, rfl⟩
      obtain ⟨r4, hr4⟩ : ∃ r, r = applyL s.data.toList [] := ⟨_, rfl⟩
      have hy : (⟨r2.1.toArray⟩ : ByteArray).size ≤ 4194304 := by
        have := applyL_le (M.take k) s.data.toList
        rw [← hr2, ← size_eq] at this
        have e : (⟨r2.1.toArray⟩ : ByteArray).size = r2.1.length := by rw [size_eq]
        omega
      have cA := fun w' (hb : Below w.heap.size w w') => (edApply_any s A c l w' h1 h2 h3 (hr.below hb) (hE.below hb)).mono ap_lit
      have cB := fun w' (hb : Below w.heap.size w w') => (edApply_any s A c (l.take k) w' h1 (by omega) (fun e he => h3 e (List.mem_of_mem_take he)) ((hr.below hb).take k) (hE.below hb)).mono ap_lit
      have cD := fun w' (hb : Below w.heap.size w w') => (edApply_any ⟨r2.1.toArray⟩ (if c = k then A else Option.map (fun x => x.add (k * 5)) A) (c - k) (l.drop k) w' hy (by omega) (fun e he => h3 e (List.mem_of_mem_drop he)) (rdE_tail (hr.below hb) hlc hk) (hE.below hb)).mono ap_lit
      have cS := fun w' (hb : Below w.heap.size w w') => (edApply_any s none 0 [] w' h1 (by decide) (fun e he => by cases he) (RdE.nil _ _) (hE.below hb)).mono ap_lit
      rw [← hM, ← hr1] at cA
      rw [hlt, hM1, ← hr2] at cB
      rw [hld, hM2, show (⟨r2.1.toArray⟩ : ByteArray).data.toList = r2.1 from rfl, ← hr3] at cD
      rw [List.map_nil, ← hr4, List.length_nil] at cS
      have happ := applyL_append s.data.toList (M.take k) (M.drop k)
      rw [List.take_append_drop, ← hr1, ← hr2, ← hr3] at happ
      have HA := Lib.hid cA
      have HB := Lib.hid cB
      have HD := Lib.hid cD
      by_cases hv : validD s.data.toList = true
      · have e4 : r4 = (s.data.toList, 0) := by
          rw [hr4]
          unfold applyL
          rw [if_pos hv]
          rfl
        have es : (⟨s.data.toList.toArray⟩ : ByteArray) = s := data_inj rfl
        rw [e4, show ((s.data.toList, (0 : Nat)).1) = s.data.toList from rfl, es] at cS
        have HS := Lib.hid cS
        obtain ⟨y, f⟩ := r2
        by_cases hf : f = 0
        · subst hf
          rw [if_pos rfl] at happ
          subst happ
          obtain ⟨x, g⟩ := r1
          clear hE hok hr h cF h3 hin hi hlt hld hM1 hM2 hr1 hr2 hr3 hr4 hM cA cB cD cS e4 es hy hv
          go_enter Tryd.func10, Tryd.ntmps10
          go_wp2_with (first
            | (go_at_call 22; refine HF.out.mono ?_; rintro e w1 ⟨rfl, rfl⟩)
            | (go_at_call 23; refine (HL.out _ (HE.out.below hb5)).mono ?_; rintro e w6 ⟨rfl, hb6⟩; replace hb6 := bth hb5 hb6)
            | (go_at_call 24; (with_reducible refine (HS.out w4 hb4).mono ?_); rintro e w5 ⟨rfl, hb5⟩; replace hb5 := bth hb4 hb5)
            | (go_at_call 24; (with_reducible refine (HD.out w3 hb3).mono ?_); rintro e w4 ⟨rfl, hb4⟩; replace hb4 := bth hb3 hb4)
            | (go_at_call 24; (with_reducible refine (HB.out w2 hb2).mono ?_); rintro e w3 ⟨rfl, hb3⟩; replace hb3 := bth hb2 hb3)
            | (go_at_call 24; refine (HA.out _ (Below.refl _ _)).mono ?_; rintro e w2 ⟨rfl, hb2⟩))
          all_goals (go_ret; exact ⟨rfl, hb6⟩)
        · rw [if_neg hf] at happ
          have hfz : ((f : Int) == 0) = false := by
            rw [beq_eq_false_iff_ne]
            omega
          subst happ
          obtain ⟨x, g⟩ := r3
          clear hE hok hr h cF h3 hin hi hlt hld hM1 hM2 hr1 hr2 hr3 hr4 hM cA cB cD cS e4 es hy hv hf
          go_enter Tryd.func10, Tryd.ntmps10
          go_wp2_with (first
            | (go_at_call 22; refine HF.out.mono ?_; rintro e w1 ⟨rfl, rfl⟩)
            | (go_at_call 23; refine (HL.out _ (HE.out.below hb5)).mono ?_; rintro e w6 ⟨rfl, hb6⟩; replace hb6 := bth hb5 hb6)
            | (go_at_call 24; (with_reducible refine (HS.out w4 hb4).mono ?_); rintro e w5 ⟨rfl, hb5⟩; replace hb5 := bth hb4 hb5)
            | (go_at_call 24; (with_reducible refine (HD.out w3 hb3).mono ?_); rintro e w4 ⟨rfl, hb4⟩; replace hb4 := bth hb3 hb4)
            | (go_at_call 24; (with_reducible refine (HB.out w2 hb2).mono ?_); rintro e w3 ⟨rfl, hb3⟩; replace hb3 := bth hb2 hb3)
            | (go_at_call 24; refine (HA.out _ (Below.refl _ _)).mono ?_; rintro e w2 ⟨rfl, hb2⟩))
          all_goals (go_ret; exact ⟨rfl, hb6⟩)
      · have e4 : r4 = ([], 11) := by
          rw [hr4]
          unfold applyL
          rw [if_neg hv]
        have e2 : r2 = ([], 11) := by
          rw [hr2]
          unfold applyL
          rw [if_neg hv]
        rw [e4] at cS
        have HS := Lib.hid cS
        rw [e2, if_neg (by decide)] at happ
        subst happ e2
        obtain ⟨x, g⟩ := r3
        clear hE hok hr h cF h3 hin hi hlt hld hM1 hM2 hr1 hr2 hr3 hr4 hM cA cB cD cS e4 hy hv
        go_enter Tryd.func10, Tryd.ntmps10
        go_wp2_with (first
          | (go_at_call 22; refine HF.out.mono ?_; rintro e w1 ⟨rfl, rfl⟩)
          | (go_at_call 23; refine (HL.out _ (HE.out.below hb5)).mono ?_; rintro e w6 ⟨rfl, hb6⟩; replace hb6 := bth hb5 hb6)
          | (go_at_call 24; (with_reducible refine (HS.out w4 hb4).mono ?_); rintro e w5 ⟨rfl, hb5⟩; replace hb5 := bth hb4 hb5)
          | (go_at_call 24; (with_reducible refine (HD.out w3 hb3).mono ?_); rintro e w4 ⟨rfl, hb4⟩; replace hb4 := bth hb3 hb4)
          | (go_at_call 24; (with_reducible refine (HB.out w2 hb2).mono ?_); rintro e w3 ⟨rfl, hb3⟩; replace hb3 := bth hb2 hb3)
          | (go_at_call 24; refine (HA.out _ (Below.refl _ _)).mono ?_; rintro e w2 ⟨rfl, hb2⟩))
        all_goals (go_ret; exact ⟨rfl, hb6⟩)
    · by_cases h0 : i < 0
      · clear hE hok hr h cF h3 hin hi
        go_enter Tryd.func10, Tryd.ntmps10
        go_wp2_with (first
          | (go_at_call 22; refine HF.out.mono ?_; rintro e w1 ⟨rfl, rfl⟩)
          | (go_at_call 23; refine (HL.out _ HE.out).mono ?_; rintro e w4 ⟨rfl, hb4⟩))
        go_ret
        exact ⟨rfl, hb4⟩
      · have h4 : (l.length : Int) < i := by omega
        have h0' : decide (i < 0) = false := decide_eq_false h0
        clear hE hok hr h cF h3 hin hi
        go_enter Tryd.func10, Tryd.ntmps10
        go_wp2_with (first
          | (go_at_call 22; refine HF.out.mono ?_; rintro e w1 ⟨rfl, rfl⟩)
          | (go_at_call 23; refine (HL.out _ HE.out).mono ?_; rintro e w4 ⟨rfl, hb4⟩))
        go_ret
        exact ⟨rfl, hb4⟩
  · have cF := fits06_no s A c l w hs hl hok hr h
    have HF := Lib.hid cF
    clear hE hok hr h cF
    go_enter Tryd.func10, Tryd.ntmps10
    go_wp2_with (first
      | (go_at_call 22; refine HF.out.mono ?_; rintro e w1 ⟨rfl, rfl⟩)
      | (go_at_call 23; refine (HL.out _ HE.out).mono ?_; rintro e w4 ⟨rfl, hb4⟩))
    go_ret
    exact ⟨rfl, hb4⟩
end Go.Proofs.YtadkjeefiacdbaaDoor
