/-
  THE WALKS of the document's answer for layer 7: Open. Conditions: stated at each.
-/
import Derived.Test.YtcadfaecoldcpaaDoorDoWa
set_option linter.unusedVariables false
set_option linter.unusedSimpArgs false
namespace Go.Proofs.YtcadfaecoldcpaaDoor
open Go.RowKit Go.Lib Go.Shelf Go.Maps

/-- How far the new document has been laid. -/
def InsAt (d : DocL) (L O : List DocL) (done : Bool) (i : Nat) : Prop := (if done = true then O ++ L.drop i = insL d L else O ++ insL d (L.drop i) = insL d L) ∧ O.length = i + (if done = true then 1 else 0)
theorem InsAt.start (d : DocL) (L : List DocL) : InsAt d L [] false 0 := ⟨by simp, by simp⟩
theorem InsAt.done {d : DocL} {L O : List DocL} {i : Nat} (h : InsAt d L O true i) (hi : i < L.length) : InsAt d L (O ++ [L[i]]) true (i + 1) := by
  obtain ⟨h1, h2⟩ := h
  rw [if_pos rfl, List.drop_eq_getElem_cons hi] at h1
  refine ⟨?_, ?_⟩
  · rw [if_pos rfl, List.append_assoc]
    exact h1
  · rw [List.length_append, h2]
    simp
theorem InsAt.skip {d : DocL} {L O : List DocL} {i : Nat} (h : InsAt d L O false i) (hi : i < L.length) (hb : bytesBefore d.n (L[i]).n = false) : InsAt d L (O ++ [L[i]]) false (i + 1) := by
  obtain ⟨h1, h2⟩ := h
  rw [if_neg (by decide), List.drop_eq_getElem_cons hi] at h1
  rw [insL, if_neg (by rw [hb]; simp)] at h1
  refine ⟨?_, ?_⟩
  · rw [if_neg (by decide), List.append_assoc]
    exact h1
  · rw [List.length_append, h2]
    simp
theorem InsAt.lay {d : DocL} {L O : List DocL} {i : Nat} (h : InsAt d L O false i) (hi : i < L.length) (hb : bytesBefore d.n (L[i]).n = true) : InsAt d L ((O ++ [d]) ++ [L[i]]) true (i + 1) := by
  obtain ⟨h1, h2⟩ := h
  rw [if_neg (by decide), List.drop_eq_getElem_cons hi] at h1
  rw [insL, if_pos hb] at h1
  refine ⟨?_, ?_⟩
  · rw [if_pos rfl, List.append_assoc, List.append_assoc]
    exact h1
  · rw [List.length_append, List.length_append, h2]
    simp
theorem InsAt.end1 {d : DocL} {L O : List DocL} (h : InsAt d L O true L.length) : O = insL d L := by
  obtain ⟨h1, _⟩ := h
  rw [if_pos rfl, List.drop_length, List.append_nil] at h1
  exact h1
theorem InsAt.end2 {d : DocL} {L O : List DocL} (h : InsAt d L O false L.length) : O ++ [d] = insL d L := by
  obtain ⟨h1, _⟩ := h
  rw [if_neg (by decide), List.drop_length] at h1
  exact h1
theorem cell_doc_new3 (w : World) (n : ByteArray) (v : Int) (t : ByteArray) (ty : TypeId) : ∀ j u, [Value.string n, .int .i64 v, .string t][j]? = some u → (w.alloc (.cells #[.string n, .int .i64 v, .string t] ty)).cell? ((⟨w.heap.size, 0, none⟩ : Addr).add j) = some u := by
  intro j u hj
  rw [add_lit, Nat.zero_add, cell_of_row _ _ j _ _ _ (heap_alloc_new _ _)]
  rw [← hj]
  simp
theorem one_cell_doc3 (n : ByteArray) (v : Int) (t : ByteArray) : ∀ u ∈ [Value.string n, .int .i64 v, .string t], u.oneCell' = true := by
  intro u hu
  simp at hu
  rcases hu with rfl | rfl | rfl <;> rfl
theorem docC_of (n : ByteArray) (v : Int) (t : ByteArray) : [Value.string n, .int .i64 v, .string t] = docC ⟨n.data.toList, v, t.data.toList⟩ := rfl
theorem bytes_less (a b : List UInt8) : Op.bytesLess a b = bytesBefore a b := by rw [Go.Proofs.bytesLess_eq, Bool.eq_iff_iff, decide_eq_true_iff, bb_lt]

set_option maxRecDepth 100000 in
set_option maxHeartbeats 2000000 in
theorem refOpen_any (r c : Nat) (A : Option Addr) (L : List DocL) (n : ByteArray) (v : Int) (t : ByteArray) (w : World) (h : Sm w r A c L) (hl : L.length ≤ 1000) (hn : n.size ≤ 16777216) (ht : t.size ≤ 16777216) :
    Calls Tryd.prog 20 #[.pointer (some ⟨r, 0, none⟩), .agg #[.string n, .int .i64 v, .string t]] w (ActM (openL L ⟨n.data.toList, v, t.data.toList⟩) r w) := by
  have HS := Lib.hid h
  have cN := Lib.hid fun w' => refName_any n w' hn
  have cR := Lib.hid fun w' => refRight_any t w' ht
  have cF := Lib.hid fun w' (hS : Sm w' r A c L) => refFind_any r c A L n w' hS hl
  have hk0 : validD t.data.toList = true → holdsL t.data.toList = if 16384 < t.data.toList.length then 73 else 0 := fun h => by unfold holdsL; rw [if_pos h]
  by_cases h1 : namedL n.data.toList
  · rw [decide_eq_true h1] at cN
    cases hv : validD t.data.toList with
    | false =>
      have hk1 : holdsL t.data.toList = 11 := by unfold holdsL; rw [hv, if_neg (by decide)]
      have e : openL L ⟨n.data.toList, v, t.data.toList⟩ = (L, 11) := by
        unfold openL
        simp only
        rw [if_pos h1, hk1, if_neg (by decide)]
      rw [hv] at cR
      rw [e]
      clear e hk0 hk1 h1 hv h
      go_enter Tryd.func20, Tryd.ntmps20
      go_wp2_with (first
        | (go_at_call 32; refine (cN.out _).mono ?_; rintro e w1 ⟨rfl, hb1⟩; obtain ⟨k0, k1, k2, hw1⟩ := box3 hb1)
        | (go_at_call 33; refine (cR.out _).mono ?_; rintro e w2 ⟨rfl, hb2⟩; replace hb2 := bth hb1 hb2; obtain ⟨m0, m1, m2, hw2⟩ := box3 hb2; have hS2 := HS.out.below hw2; have hc2 := hS2.cell)
        | (go_at_call 34; refine (cF.out _ hS2).mono ?_; rintro e w3 ⟨rfl, rfl⟩))
      (try simp only [Exit.inBlock, Exit.then])
      go_ret
      exact ⟨A, c, rfl, HS.out.below hw2, below_grown hw2 _⟩
    | true =>
      by_cases h3 : 16384 < t.size
      · have e : openL L ⟨n.data.toList, v, t.data.toList⟩ = (L, 73) := by
          unfold openL
          simp only
          rw [if_pos h1, hk0 hv, ← Lib.size_eq, if_pos h3, if_neg (by decide)]
        rw [hv] at cR
        rw [e]
        have h3z : (16384 : Int) < (t.size : Int) := by omega
        clear e hk0 h1 hv h h3
        go_enter Tryd.func20, Tryd.ntmps20
        go_wp2_with (first
          | (go_at_call 32; refine (cN.out _).mono ?_; rintro e w1 ⟨rfl, hb1⟩; obtain ⟨k0, k1, k2, hw1⟩ := box3 hb1)
          | (go_at_call 33; refine (cR.out _).mono ?_; rintro e w2 ⟨rfl, hb2⟩; replace hb2 := bth hb1 hb2; obtain ⟨m0, m1, m2, hw2⟩ := box3 hb2; have hS2 := HS.out.below hw2; have hc2 := hS2.cell)
          | (go_at_call 34; refine (cF.out _ hS2).mono ?_; rintro e w3 ⟨rfl, rfl⟩))
        (try simp only [Exit.inBlock, Exit.then])
        go_ret
        exact ⟨A, c, rfl, HS.out.below hw2, below_grown hw2 _⟩
      · by_cases h4 : 8 ≤ L.length
        · have e : openL L ⟨n.data.toList, v, t.data.toList⟩ = (L, 73) := by
            unfold openL
            simp only
            rw [if_pos h1, hk0 hv, ← Lib.size_eq, if_neg h3, if_pos rfl, if_pos h4]
          rw [hv] at cR
          rw [e]
          have h3z : decide ((16384 : Int) < (t.size : Int)) = false := decide_eq_false (by omega)
          have h4z : (8 : Int) ≤ (L.length : Int) := by omega
          clear e hk0 h1 hv h h3 h4
          go_enter Tryd.func20, Tryd.ntmps20
          go_wp2_with (first
            | (go_at_call 32; refine (cN.out _).mono ?_; rintro e w1 ⟨rfl, hb1⟩; obtain ⟨k0, k1, k2, hw1⟩ := box3 hb1)
            | (go_at_call 33; refine (cR.out _).mono ?_; rintro e w2 ⟨rfl, hb2⟩; replace hb2 := bth hb1 hb2; obtain ⟨m0, m1, m2, hw2⟩ := box3 hb2; have hS2 := HS.out.below hw2; have hc2 := hS2.cell)
            | (go_at_call 34; refine (cF.out _ hS2).mono ?_; rintro e w3 ⟨rfl, rfl⟩))
          (try simp only [Exit.inBlock, Exit.then])
          go_ret
          exact ⟨A, c, rfl, HS.out.below hw2, below_grown hw2 _⟩
        · cases h5 : hasL L n.data.toList with
          | true =>
            have e : openL L ⟨n.data.toList, v, t.data.toList⟩ = (L, 74) := by
              unfold openL
              simp only
              rw [if_pos h1, hk0 hv, ← Lib.size_eq, if_neg h3, if_pos rfl, if_neg h4, h5, if_pos rfl]
            obtain ⟨k, hk, hx, hnk, hf⟩ := findX_has h5
            rw [hv] at cR
            rw [e]
            rw [hx] at cF
            have h3z : decide ((16384 : Int) < (t.size : Int)) = false := decide_eq_false (by omega)
            have h4z : decide ((8 : Int) ≤ (L.length : Int)) = false := decide_eq_false (by omega)
            clear hf hnk hx hk
            clear e hk0 h1 hv h5 h h3
            go_enter Tryd.func20, Tryd.ntmps20
            go_wp2_with (first
              | (go_at_call 32; refine (cN.out _).mono ?_; rintro e w1 ⟨rfl, hb1⟩; obtain ⟨k0, k1, k2, hw1⟩ := box3 hb1)
              | (go_at_call 33; refine (cR.out _).mono ?_; rintro e w2 ⟨rfl, hb2⟩; replace hb2 := bth hb1 hb2; obtain ⟨m0, m1, m2, hw2⟩ := box3 hb2; have hS2 := HS.out.below hw2; have hc2 := hS2.cell)
              | (go_at_call 34; refine (cF.out _ hS2).mono ?_; rintro e w3 ⟨rfl, rfl⟩))
            (try simp only [Exit.inBlock, Exit.then])
            go_ret
            exact ⟨A, c, rfl, HS.out.below hw2, below_grown hw2 _⟩
          | false =>
            have e : openL L ⟨n.data.toList, v, t.data.toList⟩ = (insL ⟨n.data.toList, v, t.data.toList⟩ L, 0) := by
              unfold openL
              simp only
              rw [if_pos h1, hk0 hv, ← Lib.size_eq, if_neg h3, if_pos rfl, if_neg h4, h5, if_neg (by decide)]
            rw [hv] at cR
            rw [e]
            rw [findX_not h5] at cF
            have h3z : decide ((16384 : Int) < (t.size : Int)) = false := decide_eq_false (by omega)
            have h4z : decide ((8 : Int) ≤ (L.length : Int)) = false := decide_eq_false (by omega)
            clear e hk0 h1 hv h3 h5 h
            go_enter Tryd.func20, Tryd.ntmps20
            go_wp2_with (first
              | (go_at_call 32; refine (cN.out _).mono ?_; rintro e w1 ⟨rfl, hb1⟩; obtain ⟨k0, k1, k2, hw1⟩ := box3 hb1)
              | (go_at_call 33; refine (cR.out _).mono ?_; rintro e w2 ⟨rfl, hb2⟩; replace hb2 := bth hb1 hb2; obtain ⟨m0, m1, m2, hw2⟩ := box3 hb2; have hS2 := HS.out.below hw2; have hc2 := hS2.cell)
              | (go_at_call 34; refine (cF.out _ hS2).mono ?_; rintro e w3 ⟨rfl, rfl⟩))
            have hwl : w.heap.size < w3.heap.size := by
              have := hb2.size
              rw [World.size_alloc] at this
              omega
            have HW2 := Lib.hid hw2
            have HS2 := Lib.hid hS2
            have FA : Hid (∀ W, Below w3.heap.size w3 W → W.cell? ⟨w.heap.size, 0, none⟩ = some (.string n) ∧ W.cell? ⟨w.heap.size, 1, none⟩ = some (.int .i64 v) ∧ W.cell? ⟨w.heap.size, 2, none⟩ = some (.string t) ∧ W.cell? ⟨r, 0, none⟩ = some (.slice A L.length c)) := Lib.hid fun W hb => ⟨(hb.cell (p := ⟨w.heap.size, 0, none⟩) hwl).trans m0, (hb.cell (p := ⟨w.heap.size, 1, none⟩) hwl).trans m1, (hb.cell (p := ⟨w.heap.size, 2, none⟩) hwl).trans m2, (hS2.below hb).cell⟩
            clear cN cR cF hw2 hS2 hb1 hw1 k0 k1 k2 hb2
            go_loopw [7, 8, 9] (fun a b d wr => ∃ (Ao : Option Addr) (co i : Nat) (O : List DocL) (done : Bool), a = .slice Ao O.length co ∧ b = .bool done ∧ d = .int .i64 i ∧ i ≤ L.length ∧ Hid (InsAt ⟨n.data.toList, v, t.data.toList⟩ L O done i) ∧ Hid (wr.ownsRow w3.heap.size 24 3 (.slice Ao O.length co) O.length (cellsD O)) ∧ Below w3.heap.size w3 wr) (fun _ _ d _ => L.length - (RowKit.intOf d).toNat)
            case atStart => exact ⟨none, 0, 0, [], false, rfl, rfl, rfl, Nat.zero_le _, Lib.hid (InsAt.start _ _), Lib.hid (World.ownsRow_nil ..), Below.refl _ _⟩
            case round =>
              obtain ⟨Ao, co, i, O, done, rfl, rfl, rfl, hi, hIns, hown, hbr⟩ := hrel
              have hOl : O.length ≤ 1001 := by
                have := hIns.out.2
                split at this <;> omega
              obtain ⟨q0, q1, q2, qr⟩ := FA.out wr hbr
              by_cases hil : i < L.length
              · have hiz : (i : Int) < (L.length : Int) := by omega
                obtain ⟨g, o, hA, hg, c0, c1, c2⟩ := HS2.out.rd i hil
                subst hA
                obtain ⟨⟨xn, xv, xt⟩, hx⟩ : ∃ x, x = L[i] := ⟨_, rfl⟩
                rw [← hx] at c0 c1 c2
                simp only at c0 c1 c2
                have FE : Hid (∀ W, Below w3.heap.size w3 W → W.cell? ⟨g, o + i * 3, none⟩ = some (.string ⟨xn.toArray⟩) ∧ W.cell? ⟨g, o + i * 3 + 1, none⟩ = some (.int .i64 xv) ∧ W.cell? ⟨g, o + i * 3 + 2, none⟩ = some (.string ⟨xt.toArray⟩)) := Lib.hid fun W hb => ⟨(hb.cell (p := ⟨g, o + i * 3, none⟩) hg).trans c0, (hb.cell (p := ⟨g, o + i * 3 + 1, none⟩) hg).trans c1, (hb.cell (p := ⟨g, o + i * 3 + 2, none⟩) hg).trans c2⟩
                obtain ⟨e0, e1, e2⟩ := FE.out wr hbr
                clear c0 c1 c2
                cases done with
                | true =>
                  have hI := hIns.out.done hil
                  rw [← hx] at hI
                  have HI := Lib.hid hI
                  clear hI hx hIns
                  go_upto_region 16 with (fail)
                  go_quiet (fail)
                  have hbW := bdN hbr nq
                  have hownW : (wr.drewN nq).ownsRow w3.heap.size 24 3 (.slice Ao O.length co) O.length (cellsD O) := hown.out
                  clear hbr hown q0 q1 q2 qr e0 e1 e2
                  generalize wr.drewN nq = W at hbW hownW ⊢
                  obtain ⟨q0, q1, q2, qr⟩ := FA.out W hbW
                  obtain ⟨e0, e1, e2⟩ := FE.out W hbW
                  have hWs := hbW.size
                  have HO := Lib.hid hownW
                  have HB := Lib.hid hbW
                  clear hownW hbW
                  go_wp2_with (at_builtin; refine wpList_app _ eltDocs rfl (.tmp 69) (.tmp 77) rfl w3.heap.size _ O.length _ rfl (World.ownsRow.alloc HO.out _) ⟨W.heap.size, 0, none⟩ 1 1 _ rfl rfl (cell_doc_new3 W ⟨xn.toArray⟩ xv ⟨xt.toArray⟩ _) (one_cell_doc3 _ _ _) (by omega) (maxLen_of (by omega)) (by omega) (by simp; omega) ?_; intro g4 c4 w4 hown4 hgr4 hat4 hlt4)
                  go_roundw
                  case rel =>
                    refine ⟨_, c4, i + 1, O ++ [⟨xn, xv, xt⟩], true, by rw [List.length_append]; rfl, rfl, by go_num, by omega, HI, Lib.hid ?_, (HB.out.alloc hWs _).grown hgr4 (by simp; omega) fun j hj => (World.ownsRow.lt HO.out j hj).1⟩
                    rw [cellsD_app, List.length_append]
                    exact hown4
                  case measure => simp [RowKit.intOf]; omega
                | false =>
                  cases hb : bytesBefore n.data.toList (L[i]).n with
                  | false =>
                    have hI := hIns.out.skip hil hb
                    rw [← hx] at hI hb
                    have hless : Op.bytesLess n.toList xn = false := by rw [bytes_less, ByteArray.toList_eq]; exact hb
                    have HI := Lib.hid hI
                    clear hI hx hIns hb
                    go_upto_region 16 with (fail)
                    go_quiet (fail)
                    have hbW := bdN hbr nq
                    have hownW : (wr.drewN nq).ownsRow w3.heap.size 24 3 (.slice Ao O.length co) O.length (cellsD O) := hown.out
                    clear hbr hown q0 q1 q2 qr e0 e1 e2
                    generalize wr.drewN nq = W at hbW hownW ⊢
                    obtain ⟨q0, q1, q2, qr⟩ := FA.out W hbW
                    obtain ⟨e0, e1, e2⟩ := FE.out W hbW
                    have hWs := hbW.size
                    have HO := Lib.hid hownW
                    have HB := Lib.hid hbW
                    clear hownW hbW
                    go_wp2_with (at_builtin; refine wpList_app _ eltDocs rfl (.tmp 69) (.tmp 77) rfl w3.heap.size _ O.length _ rfl (World.ownsRow.alloc HO.out _) ⟨W.heap.size, 0, none⟩ 1 1 _ rfl rfl (cell_doc_new3 W ⟨xn.toArray⟩ xv ⟨xt.toArray⟩ _) (one_cell_doc3 _ _ _) (by omega) (maxLen_of (by omega)) (by omega) (by simp; omega) ?_; intro g4 c4 w4 hown4 hgr4 hat4 hlt4)
                    go_roundw
                    case rel =>
                      refine ⟨_, c4, i + 1, O ++ [⟨xn, xv, xt⟩], false, by rw [List.length_append]; rfl, rfl, by go_num, by omega, HI, Lib.hid ?_, (HB.out.alloc hWs _).grown hgr4 (by simp; omega) fun j hj => (World.ownsRow.lt HO.out j hj).1⟩
                      rw [cellsD_app, List.length_append]
                      exact hown4
                    case measure => simp [RowKit.intOf]; omega
                  | true =>
                    have hI := hIns.out.lay hil hb
                    rw [← hx] at hI hb
                    have hless : Op.bytesLess n.toList xn = true := by rw [bytes_less, ByteArray.toList_eq]; exact hb
                    have HI := Lib.hid hI
                    clear hI hx hIns hb
                    go_upto_region 16 with (fail)
                    go_quiet (fail)
                    have hbW := bdN hbr nq
                    have hownW : (wr.drewN nq).ownsRow w3.heap.size 24 3 (.slice Ao O.length co) O.length (cellsD O) := hown.out
                    clear hbr hown q0 q1 q2 qr e0 e1 e2
                    generalize wr.drewN nq = W at hbW hownW ⊢
                    obtain ⟨q0, q1, q2, qr⟩ := FA.out W hbW
                    have hWs := hbW.size
                    have HO := Lib.hid hownW
                    have HB := Lib.hid hbW
                    clear hownW hbW
                    go_wp2_with (first
                      | (at_builtin; refine wpList_app _ eltDocs rfl (.tmp 69) (.tmp 77) rfl w3.heap.size _ (O.length + 1) _ rfl (World.ownsRow.alloc HO4.out _) ⟨w4.heap.size, 0, none⟩ 1 1 _ rfl rfl (cell_doc_new3 w4 ⟨xn.toArray⟩ xv ⟨xt.toArray⟩ _) (one_cell_doc3 _ _ _) (by omega) (maxLen_of (by omega)) (by omega) (by simp; omega) ?_; intro g5 c5 w5 hown5 hgr5 hat5 hlt5)
                      | (at_builtin; refine wpList_app _ eltDocs rfl (.tmp 65) (.tmp 67) rfl w3.heap.size _ O.length _ rfl (World.ownsRow.alloc HO.out _) ⟨W.heap.size, 0, none⟩ 1 1 _ rfl rfl (cell_doc_new3 W n v t _) (one_cell_doc3 _ _ _) (by omega) (maxLen_of (by omega)) (by omega) (by simp; omega) ?_; intro g4 c4 w4 hown4 hgr4 hat4 hlt4; have hb4 : Below w3.heap.size w3 w4 := (HB.out.alloc hWs _).grown hgr4 (by simp; omega) (fun j hj => (World.ownsRow.lt HO.out j hj).1); obtain ⟨p0, p1, p2, pr⟩ := FA.out w4 hb4; obtain ⟨e0, e1, e2⟩ := FE.out w4 hb4; have h4s := hb4.size; have HO4 := Lib.hid hown4; have HB4 := Lib.hid hb4; clear hown4 hgr4 hat4 hlt4 hb4))
                    go_roundw
                    case rel =>
                      refine ⟨_, c5, i + 1, (O ++ [⟨n.data.toList, v, t.data.toList⟩]) ++ [⟨xn, xv, xt⟩], true, by rw [List.length_append, List.length_append]; rfl, rfl, by go_num, by omega, HI, Lib.hid ?_, (HB4.out.alloc h4s _).grown hgr5 (by simp; omega) fun j hj => (World.ownsRow.lt HO4.out j hj).1⟩
                      rw [cellsD_app, cellsD_app, List.length_append, List.length_append]
                      exact hown5
                    case measure => simp [RowKit.intOf]; omega
              · obtain rfl : i = L.length := by omega
                have hfr : wr.frozen? ⟨r, 0, none⟩ = false := frozen_box (HS2.out.below hbr).box
                cases done with
                | true =>
                  have hO := hIns.out.end1
                  obtain ⟨g1, cap, hv, _, _⟩ := hown.out.form (by rw [hO, insL_length]; omega)
                  injection hv with hv1 hv2 hv3
                  subst hv1 hv3
                  have hown3 := hown.out
                  rw [hO] at hown3
                  have hOl2 : O.length = (insL ⟨n.data.toList, v, t.data.toList⟩ L).length := by rw [hO]
                  have HO3 := Lib.hid hown3
                  have HOL := Lib.hid hOl2
                  have HB3 := Lib.hid hbr
                  clear hown hIns hO hown3 hOl2
                  go_wp2
                  go_ret
                  rw [HOL.out]
                  have e := sm_store HS2.out HB3.out HO3.out
                  exact ⟨_, _, rfl, e.1, (below_grown HW2.out _).trans e.2⟩
                | false =>
                  have hO := hIns.out.end2
                  obtain ⟨M, hM⟩ : ∃ M, M = insL ⟨n.data.toList, v, t.data.toList⟩ L := ⟨_, rfl⟩
                  rw [← hM] at hO ⊢
                  have hml : O.length + 1 = M.length := by rw [← hO, List.length_append]; rfl
                  have hmc : cellsD O ++ [Value.string n, .int .i64 v, .string t] = cellsD M := by rw [← hO, cellsD_app]; rfl
                  have HML := Lib.hid hml
                  have HM := Lib.hid hM
                  have HMC := Lib.hid hmc
                  have hWs := hbr.size
                  have HO := Lib.hid hown.out
                  have HB := Lib.hid hbr
                  clear hown hIns hO hml hmc hM hfr
                  go_wp2_with (at_builtin; refine wpList_app _ eltDocs rfl (.tmp 81) (.tmp 83) rfl w3.heap.size _ O.length _ rfl (World.ownsRow.alloc HO.out _) ⟨wr.heap.size, 0, none⟩ 1 1 _ rfl rfl (cell_doc_new3 wr n v t _) (one_cell_doc3 _ _ _) (by omega) (maxLen_of (by omega)) (by omega) (by simp; omega) ?_; intro g4 c4 w4 hown4 hgr4 hat4 hlt4; rw [HML.out, HMC.out] at hown4; rw [HML.out]; have hb4 : Below w3.heap.size w3 w4 := (HB.out.alloc hWs _).grown hgr4 (by simp; omega) (fun j hj => (World.ownsRow.lt HO.out j hj).1); obtain ⟨p0, p1, p2, pr⟩ := FA.out w4 hb4; have hfr : w4.frozen? ⟨r, 0, none⟩ = false := frozen_box (HS2.out.below hb4).box; have HO4 := Lib.hid hown4; have HB4 := Lib.hid hb4; clear hown4 hgr4 hat4 hlt4 hb4)
                  go_ret
                  have e := sm_store HS2.out HB4.out HO4.out
                  obtain rfl := HM.out
                  exact ⟨_, _, rfl, e.1, (below_grown HW2.out _).trans e.2⟩
  · rw [decide_eq_false h1] at cN
    have e : openL L ⟨n.data.toList, v, t.data.toList⟩ = (L, 1) := by
      unfold openL
      rw [if_neg h1]
    rw [e]
    generalize validD t.data.toList = vv at cR
    clear e hk0 h1 h cF
    go_enter Tryd.func20, Tryd.ntmps20
    go_wp2_with (first
      | (go_at_call 32; refine (cN.out _).mono ?_; rintro e w1 ⟨rfl, hb1⟩; obtain ⟨k0, k1, k2, hw1⟩ := box3 hb1)
      | (go_at_call 33; refine (cR.out _).mono ?_; rintro e w2 ⟨rfl, hb2⟩; replace hb2 := bth hb1 hb2; obtain ⟨m0, m1, m2, hw2⟩ := box3 hb2))
    (try simp only [Exit.inBlock, Exit.then])
    go_ret
    exact ⟨A, c, rfl, HS.out.below hw2, below_grown hw2 _⟩
end Go.Proofs.YtcadfaecoldcpaaDoor

/-
  THE WALKS of the document's answer for layer 7: Size, Same. Conditions: stated at each.
-/
set_option linter.unusedVariables false
set_option linter.unusedSimpArgs false
namespace Go.Proofs.YtcadfaecoldcpaaDoor
open Go.RowKit Go.Lib Go.Shelf Go.Maps

set_option maxRecDepth 100000 in
set_option maxHeartbeats 1000000 in
theorem refSize_any (r c : Nat) (A : Option Addr) (L : List DocL) (w : World) (h : Sm w r A c L) (hl : L.length ≤ 1000) (hdo : ∀ d ∈ L, DocOk d) :
    Calls Tryd.prog 19 #[.pointer (some ⟨r, 0, none⟩)] w (NumPost (sizeL L) w) := by
  have HS := Lib.hid h
  have HD := Lib.hid hdo
  have hc := h.cell
  clear h hdo
  go_enter Tryd.func19, Tryd.ntmps19
  go_wp2
  go_loop [3, 4] (fun a i => ∃ k : Nat, a = .int .i64 (sizeL (L.take k) : Nat) ∧ i = .int .i64 k ∧ k ≤ L.length) (fun _ i => L.length - (RowKit.intOf i).toNat)
  case atStart => exact ⟨0, rfl, rfl, Nat.zero_le _⟩
  case round =>
    obtain ⟨k, rfl, rfl, hk⟩ := hrel
    by_cases hkl : k < L.length
    · have hkz : (k : Int) < (L.length : Int) := by omega
      obtain ⟨g, o, hA, hlt, c0, c1, c2⟩ := HS.out.rd k hkl
      subst hA
      have hsn := sizeL_snoc L k hkl
      have hle := sizeL_le HD.out k hk
      have hdt := (HD.out _ (List.getElem_mem hkl)).t
      obtain ⟨⟨dn, dv, dt⟩, hd⟩ : ∃ d, d = L[k] := ⟨_, rfl⟩
      rw [← hd] at c0 c1 c2 hsn hdt
      simp only at c0 c1 c2 hsn hdt
      obtain ⟨T, hT⟩ : ∃ T : ByteArray, T = ⟨dt.toArray⟩ := ⟨_, rfl⟩
      have hTs : T.size = dt.length := by rw [hT, Lib.size_eq]
      rw [← hTs] at hsn hdt
      rw [← hT] at c2
      obtain ⟨M, hM⟩ : ∃ M, M = sizeL (L.take k) := ⟨_, rfl⟩
      rw [← hM] at hsn hle ⊢
      have HSN := Lib.hid hsn
      clear hd hT hTs hM hsn
      go_wp2
      go_roundw
      case rel =>
        refine ⟨k + 1, ?_, by go_num, by omega⟩
        rw [HSN.out]
        go_num
      case measure => simp [RowKit.intOf]; omega
    · obtain rfl : k = L.length := by omega
      rw [List.take_length]
      go_wp2
      go_ret
      exact ⟨rfl, Below.refl _ _⟩
theorem doc_ne {x y : DocL} (h : x ≠ y) : (x.n == y.n) = false ∨ ((x.n == y.n) = true ∧ (x.v == y.v) = false) ∨ ((x.n == y.n) = true ∧ (x.v == y.v) = true ∧ (x.t == y.t) = false) := by
  obtain ⟨a, b, c⟩ := x
  obtain ⟨a', b', c'⟩ := y
  simp only
  by_cases h1 : a = a'
  · subst h1
    by_cases h2 : b = b'
    · subst h2
      right; right
      exact ⟨by simp, by simp, by rw [beq_eq_false_iff_ne]; intro e; exact h (by rw [e])⟩
    · right; left
      exact ⟨by simp, by rw [beq_eq_false_iff_ne]; exact h2⟩
  · left
    rw [beq_eq_false_iff_ne]
    exact h1
def SameB (L M : List DocL) (b : Bool) : Prop := L = M → b = true
set_option maxRecDepth 100000 in
set_option maxHeartbeats 1000000 in
theorem refSame_any (A A2 : Option Addr) (c c2 : Nat) (L M : List DocL) (w : World) (h : RdD w A L) (h2 : RdD w A2 M) (hl : L.length ≤ 1000) (hl2 : M.length ≤ 1000) :
    Calls Tryd.prog 16 #[.slice A L.length c, .slice A2 M.length c2] w (fun e w' => ∃ b, e = .returned (.bool b) ∧ SameB L M b ∧ Below w.heap.size w w') := by
  have HR := Lib.hid h
  have HR2 := Lib.hid h2
  clear h h2
  by_cases hlen : L.length = M.length
  · have hlz : (L.length : Int) = (M.length : Int) := by omega
    go_enter Tryd.func16, Tryd.ntmps16
    go_wp2
    go_loopw [5] (fun i wr => ∃ k : Nat, i = .int .i64 k ∧ k ≤ L.length ∧ Below w.heap.size w wr) (fun i _ => L.length - (RowKit.intOf i).toNat)
    case atStart => exact ⟨0, rfl, Nat.zero_le _, Below.refl _ _⟩
    case round =>
      obtain ⟨k, rfl, hk, hb⟩ := hrel
      by_cases hkl : k < L.length
      · have hkz : (k : Int) < (L.length : Int) := by omega
        have hkm : k < M.length := by omega
        obtain ⟨g, o, hA, hlt, c0, c1, c2'⟩ := HR.out.below hb k hkl
        subst hA
        obtain ⟨g2, o2, hA2, hlt2, d0, d1, d2⟩ := HR2.out.below hb k hkm
        subst hA2
        obtain ⟨⟨xn, xv, xt⟩, hx⟩ : ∃ x, x = L[k] := ⟨_, rfl⟩
        obtain ⟨⟨yn, yv, yt⟩, hy⟩ : ∃ y, y = M[k] := ⟨_, rfl⟩
        rw [← hx] at c0 c1 c2'
        rw [← hy] at d0 d1 d2
        simp only at c0 c1 c2' d0 d1 d2
        by_cases he : (⟨xn, xv, xt⟩ : DocL) = ⟨yn, yv, yt⟩
        · cases he
          clear hx hy
          go_upto_region 6 with (fail)
          go_quiet (fail)
          go_wp2
          go_roundw
          case rel => exact ⟨k + 1, by go_num, by omega, bdN hb _⟩
          case measure => simp [RowKit.intOf]; omega
        · have hne : Hid (L ≠ M) := Lib.hid fun e => by
            subst e
            exact he (hx.trans hy.symm)
          have hd := doc_ne he
          simp only at hd
          clear hx hy he
          rcases hd with h1 | ⟨h1, h2⟩ | ⟨h1, h2, h3⟩
          · go_upto_region 6 with (fail)
            go_quiet (fail)
            go_wp2
            go_ret
            exact ⟨_, rfl, fun e => absurd e hne.out, bdN hb _⟩
          · go_upto_region 6 with (fail)
            go_quiet (fail)
            go_wp2
            go_ret
            exact ⟨_, rfl, fun e => absurd e hne.out, bdN hb _⟩
          · go_upto_region 6 with (fail)
            go_quiet (fail)
            go_wp2
            go_ret
            exact ⟨_, rfl, fun e => absurd e hne.out, bdN hb _⟩
      · go_wp2
        go_ret
        exact ⟨_, rfl, fun _ => rfl, hb⟩
  · have hlz : ((L.length : Int) == (M.length : Int)) = false := by
      rw [beq_eq_false_iff_ne]
      omega
    have hne : Hid (L ≠ M) := Lib.hid fun e => hlen (by rw [e])
    clear hlen
    go_enter Tryd.func16, Tryd.ntmps16
    go_wp2
    go_ret
    exact ⟨_, rfl, fun e => absurd e hne.out, Below.refl _ _⟩
end Go.Proofs.YtcadfaecoldcpaaDoor

/-
  THE WALKS of the statements of layer 7: fits. Conditions: stated at each.
-/
set_option linter.unusedVariables false
set_option linter.unusedSimpArgs false
namespace Go.Proofs.YtcadfaecoldcpaaDoor
open Go.RowKit Go.Lib Go.Shelf Go.Maps

/-- An act of a script. -/
structure ActV where
  k : Int
  n : ByteArray
  v : Int
  t : ByteArray
  l : List EdV
/-- What an act may be, as an argument. -/
structure ActV.Wide (a : ActV) : Prop where
  n : a.n.size ≤ 140737488355328
  t : a.t.size ≤ 140737488355328
  l : a.l.length ≤ 140737488355328
  e : ∀ e ∈ a.l, e.fu ≤ 9223372036854775807 ∧ e.tu ≤ 9223372036854775807 ∧ e.t.size ≤ 140737488355328
def FitsA (a : ActV) : Prop := a.l.length ≤ 12 ∧ a.t.size + a.n.size + sumT (a.l.take 13) ≤ 300
theorem fitsA_of {k : Int} {n : ByteArray} {v : Int} {t : ByteArray} {l : List EdV} {b : Bool} (h : b = true ↔ (l.length ≤ 12 ∧ t.size + n.size + sumT (l.take 13) ≤ 300)) : b = true ↔ FitsA ⟨k, n, v, t, l⟩ := h
def FitsAPost (a : ActV) (w : World) (e : Ending) (w' : World) : Prop := ∃ b : Bool, e = .returned (.bool b) ∧ (b = true ↔ FitsA a) ∧ Below w.heap.size w w'
theorem sumT_mem {l : List EdV} {e : EdV} (h : e ∈ l) : e.t.size ≤ sumT l := by
  induction l with
  | nil => cases h
  | cons x r ih =>
    rw [show sumT (x :: r) = x.t.size + sumT r from rfl]
    rcases List.mem_cons.1 h with h | h
    · rw [h]
      omega
    · have := ih h
      omega
theorem FitsA.ok {a : ActV} (h : FitsA a) (hw : a.Wide) : a.n.size ≤ 300 ∧ a.t.size ≤ 300 ∧ a.l.length ≤ 12 ∧ ∀ e ∈ a.l, e.Ok := by
  obtain ⟨h1, h2⟩ := h
  rw [List.take_of_length_le (by omega)] at h2
  refine ⟨by omega, by omega, h1, fun e he => ?_⟩
  have := sumT_mem he
  obtain ⟨e1, e2, _⟩ := hw.e e he
  exact ⟨e1, e2, by omega⟩

set_option maxRecDepth 100000 in
set_option maxHeartbeats 1000000 in
theorem fits07_any (a : ActV) (A : Option Addr) (c : Nat) (w : World) (hw : a.Wide) (hr : RdE w A a.l) :
    Calls Tryd.prog 8 #[.agg #[.int .i64 a.k, .string a.n, .int .i64 a.v, .string a.t, .slice A a.l.length c]] w (FitsAPost a w) := by
  obtain ⟨hn, ht, hl, he⟩ := hw
  have hsm := sumT_le fun e h => (he e h).2.2
  have HSM := Lib.hid hsm
  have HR := Lib.hid (hr.below (bal w (.cells #[.int .i64 a.k, .string a.n, .int .i64 a.v, .string a.t, .slice A a.l.length c] 27)))
  clear hsm hr he
  obtain ⟨k, n, v, t, l⟩ := a
  simp only at hn ht hl HSM HR ⊢
  go_enter Tryd.func8, Tryd.ntmps8
  go_wp2
  go_loop [3, 4] (fun a b => ∃ k m : Nat, a = .int .i64 (m : Nat) ∧ b = .int .i64 k ∧ k ≤ l.length ∧ k ≤ 13 ∧ m ≤ 140737488355328 * 15 ∧ Hid (m = t.size + n.size + sumT (l.take k))) (fun _ b => 13 - (RowKit.intOf b).toNat)
  case atStart => exact ⟨0, t.size + n.size, by go_num, rfl, by omega, by omega, by omega, by show _ = _; simp [sumT, sumL]⟩
  case round =>
    obtain ⟨k, m, rfl, rfl, hk, hk2, hm, hsum⟩ := hrel
    by_cases h1 : k < l.length
    · by_cases h2 : k ≤ 12
      · obtain ⟨g, o, hA, hlt, c0, c1, c2, c3, c4⟩ := HR.out k h1
        subst hA
        have hk1z : (k : Int) < (l.length : Int) := by omega
        have hk2z : (k : Int) ≤ 12 := by omega
        have hb := HSM.out (k + 1)
        have hst := sumT_snoc l k h1
        obtain ⟨z, hz⟩ : ∃ z, z = (l[k]).t.size := ⟨_, rfl⟩
        have hzn : m + z ≤ 140737488355328 * 15 := by
          have := hsum.out
          omega
        have HST := Lib.hid hst
        have HZ := Lib.hid hz
        have hz' : (l[k]).t.size = z := hz.symm
        clear hst hb hz
        go_wp2
        go_round
        case rel => exact ⟨k + 1, m + z, by go_num, by go_num, by omega, by omega, hzn, by show _ = _; rw [HST.out, hsum.out, HZ.out]; omega⟩
        case measure => simp [RowKit.intOf]; omega
      · have h2z : decide ((k : Int) ≤ 12) = false := decide_eq_false (by omega)
        have h3 : decide ((l.length : Int) ≤ 12) = false := decide_eq_false (by omega)
        go_wp2
        all_goals go_ret
        all_goals exact ⟨false, rfl, fitsA_of ⟨(fun h => nomatch h), fun h => by have := h.1; omega⟩, bal w _⟩
    · have h1z : decide (k < l.length) = false := decide_eq_false h1
      by_cases h3 : l.length ≤ 12
      · have h3z : (l.length : Int) ≤ 12 := by omega
        by_cases h4 : m ≤ 300
        · have h4z : (m : Int) ≤ 300 := by omega
          go_wp2
          go_ret
          exact ⟨true, rfl, fitsA_of ⟨fun _ => ⟨h3, by have := hsum.out; rw [List.take_of_length_le (by omega)] at this; rw [List.take_of_length_le (by omega)]; omega⟩, fun _ => rfl⟩, bal w _⟩
        · have h4z : decide ((m : Int) ≤ 300) = false := decide_eq_false (by omega)
          go_wp2
          go_ret
          exact ⟨false, rfl, fitsA_of ⟨(fun h => nomatch h), fun h => by have := hsum.out; have h5 := h.2; rw [List.take_of_length_le (by omega)] at this; rw [List.take_of_length_le (by omega)] at h5; omega⟩, bal w _⟩
      · have h3z : decide ((l.length : Int) ≤ 12) = false := decide_eq_false (by omega)
        go_wp2
        all_goals go_ret
        all_goals exact ⟨false, rfl, fitsA_of ⟨(fun h => nomatch h), fun h => by have := h.1; omega⟩, bal w _⟩
end Go.Proofs.YtcadfaecoldcpaaDoor

/-
  THE WALKS of the statements of layer 7: an act of a store, and of the document's. Conditions: stated at each.
-/
set_option linter.unusedVariables false
set_option linter.unusedSimpArgs false
namespace Go.Proofs.YtcadfaecoldcpaaDoor
open Go.RowKit Go.Lib Go.Shelf Go.Maps

/-- What an act makes of the documents, and the error. -/
def actL (L : List DocL) (a : ActV) : List DocL × Nat :=
  if a.k = 1 then openL L ⟨a.n.data.toList, a.v, a.t.data.toList⟩ else if a.k = 2 then changeL L a.n.data.toList a.v (a.l.map EdV.l) else if a.k = 3 then wholeL L a.n.data.toList a.v a.t.data.toList else if a.k = 4 then closeL L a.n.data.toList else (L, 0)
/-- Two blocks alone have turned. -/
def Kept2 (w w' : World) (mb r : Nat) : Prop := (∀ B w0, Below B w0 w → B ≤ w.heap.size → B ≤ mb → B ≤ r → Below B w0 w') ∧ w.heap.size ≤ w'.heap.size ∧ ∀ k, k < w.heap.size → k ≠ mb → k ≠ r → w'.heap[k]? = w.heap[k]?
theorem kept2_of {w w2 w3 : World} {o : Obj} {mb r : Nat} (h2 : (w.alloc o).drew.grownBy w2 (some mb)) (h3 : w2.grownBy w3 (some r)) : Kept2 w w3 mb r := by
  have hs : (w.alloc o).heap.size ≤ w2.heap.size := h2.size
  have hs3 : w2.heap.size ≤ w3.heap.size := h3.size
  rw [World.size_alloc] at hs
  refine ⟨fun B w0 hb hB hm hr => ?_, by omega, fun k hk h1 h4 => ?_⟩
  · have k1 : Below B w0 (w.alloc o).drew := (hb.alloc hB o).drew
    have k2 := k1.grown h2 (by show B ≤ (w.alloc o).heap.size; rw [World.size_alloc]; omega) (fun k e => by cases e; exact hm)
    exact k2.grown h3 (by omega) (fun k e => by cases e; exact hr)
  · have e1 := h3.block k (by omega) (fun e => h4 (Option.some.inj e))
    have e2 := h2.block k (by show k < (w.alloc o).heap.size; rw [World.size_alloc]; omega) (fun e => h1 (Option.some.inj e))
    exact e1.trans (e2.trans ((bal w o).drew.block k hk))
theorem kept2_alloc (w : World) (o : Obj) (mb r : Nat) : Kept2 w (w.alloc o) mb r :=
  ⟨fun B w0 hb hB _ _ => hb.alloc hB o, by rw [World.size_alloc]; omega, fun k hk _ _ => (bal w o).block k hk⟩
def DoPost (L : List DocL) (b mb r : Nat) (w : World) (e : Ending) (w' : World) : Prop := e = .returned (.bool true) ∧ St w' b mb L ∧ (∃ A c, Sm w' r A c L) ∧ Kept2 w w' mb r
theorem St.drew {w : World} {b mb : Nat} {L : List DocL} (h : St w b mb L) : St w.drew b mb L := h.below (Below.refl _ w).drew
theorem Sm.drew {w : World} {r c : Nat} {A : Option Addr} {L : List DocL} (h : Sm w r A c L) : Sm w.drew r A c L := h.below (Below.refl _ w).drew
/-- The box, and the document's store, behind an act of the store. -/
theorem RdE.kept {w w' : World} {A : Option Addr} {l : List EdV} {row : Option Nat} (h : RdE w A l) (hg : w.grownBy w' row) (hr : ∀ g o, A = some ⟨g, o, none⟩ → 0 < l.length → some g ≠ row) : RdE w' A l := by
  intro i hi
  obtain ⟨g, o, hA, hlt, c0, c1, c2, c3, c4⟩ := h i hi
  have hs := hg.size
  have k : ∀ n, w'.cell? ⟨g, n, none⟩ = w.cell? ⟨g, n, none⟩ := fun n => World.cell?_of_block (hg.block g hlt (hr g o hA (by omega)))
  exact ⟨g, o, hA, by omega, (k _).trans c0, (k _).trans c1, (k _).trans c2, (k _).trans c3, (k _).trans c4⟩
theorem box_new (w : World) (k : Int) (n : ByteArray) (v : Int) (t : ByteArray) (sl : Value) : (w.alloc (.cells #[.int .i64 k, .string n, .int .i64 v, .string t, sl] 27)).cell? ⟨w.heap.size, 0, none⟩ = some (.int .i64 k) ∧ (w.alloc (.cells #[.int .i64 k, .string n, .int .i64 v, .string t, sl] 27)).cell? ⟨w.heap.size, 1, none⟩ = some (.string n) ∧ (w.alloc (.cells #[.int .i64 k, .string n, .int .i64 v, .string t, sl] 27)).cell? ⟨w.heap.size, 2, none⟩ = some (.int .i64 v) ∧ (w.alloc (.cells #[.int .i64 k, .string n, .int .i64 v, .string t, sl] 27)).cell? ⟨w.heap.size, 3, none⟩ = some (.string t) ∧ (w.alloc (.cells #[.int .i64 k, .string n, .int .i64 v, .string t, sl] 27)).cell? ⟨w.heap.size, 4, none⟩ = some sl := by
  refine ⟨?_, ?_, ?_, ?_, ?_⟩ <;> (rw [cell_of_row _ _ _ _ _ _ (heap_alloc_new _ _)]; rfl)
theorem after_act {w w2 : World} {b mb r c : Nat} {A : Option Addr} {L : List DocL} {k : Int} {n : ByteArray} {v : Int} {t : ByteArray} {sl : Value} (hS : St w b mb L) (hM : Sm w r A c L) (hg : (w.alloc (.cells #[.int .i64 k, .string n, .int .i64 v, .string t, sl] 27)).drew.grownBy w2 (some mb)) :
    (w2.cell? ⟨w.heap.size, 0, none⟩ = some (.int .i64 k) ∧ w2.cell? ⟨w.heap.size, 1, none⟩ = some (.string n) ∧ w2.cell? ⟨w.heap.size, 2, none⟩ = some (.int .i64 v) ∧ w2.cell? ⟨w.heap.size, 3, none⟩ = some (.string t) ∧ w2.cell? ⟨w.heap.size, 4, none⟩ = some sl) ∧ Sm w2 r A c L := by
  have hb : Below w.heap.size w (w.alloc (.cells #[.int .i64 k, .string n, .int .i64 v, .string t, sl] 27)).drew := (bal w _).drew
  have hml := hS.map.lt
  have e : ∀ j, w2.cell? ⟨w.heap.size, j, none⟩ = (w.alloc (.cells #[.int .i64 k, .string n, .int .i64 v, .string t, sl] 27)).cell? ⟨w.heap.size, j, none⟩ := fun j => World.cell?_of_block (hg.block w.heap.size (by show w.heap.size < (w.alloc (.cells #[.int .i64 k, .string n, .int .i64 v, .string t, sl] 27)).heap.size; rw [World.size_alloc]; omega) (fun e => by cases e; omega))
  obtain ⟨h0, h1, h2, h3, h4⟩ := box_new w k n v t sl
  exact ⟨⟨(e 0).trans h0, (e 1).trans h1, (e 2).trans h2, (e 3).trans h3, (e 4).trans h4⟩, Sm.kept (b := b) (hM.below hb) (hS.below hb).map hg⟩
theorem after_ref {w w2 w3 : World} {r : Nat} {o : Obj} {k : Int} {n : ByteArray} {v : Int} {t : ByteArray} {sl : Value} (hr : r < w.heap.size) (hg1 : (w.alloc o).heap.size ≤ w2.heap.size) (hg : w2.grownBy w3 (some r)) (h : w2.cell? ⟨w.heap.size, 0, none⟩ = some (.int .i64 k) ∧ w2.cell? ⟨w.heap.size, 1, none⟩ = some (.string n) ∧ w2.cell? ⟨w.heap.size, 2, none⟩ = some (.int .i64 v) ∧ w2.cell? ⟨w.heap.size, 3, none⟩ = some (.string t) ∧ w2.cell? ⟨w.heap.size, 4, none⟩ = some sl) :
    w3.cell? ⟨w.heap.size, 0, none⟩ = some (.int .i64 k) ∧ w3.cell? ⟨w.heap.size, 1, none⟩ = some (.string n) ∧ w3.cell? ⟨w.heap.size, 2, none⟩ = some (.int .i64 v) ∧ w3.cell? ⟨w.heap.size, 3, none⟩ = some (.string t) ∧ w3.cell? ⟨w.heap.size, 4, none⟩ = some sl := by
  rw [World.size_alloc] at hg1
  have e : ∀ j, w3.cell? ⟨w.heap.size, j, none⟩ = w2.cell? ⟨w.heap.size, j, none⟩ := fun j => World.cell?_of_block (hg.block w.heap.size (by show w.heap.size < w2.heap.size; omega) (fun e => by cases e; omega))
  obtain ⟨h0, h1, h2, h3, h4⟩ := h
  exact ⟨(e 0).trans h0, (e 1).trans h1, (e 2).trans h2, (e 3).trans h3, (e 4).trans h4⟩

set_option maxRecDepth 100000 in
set_option maxHeartbeats 2000000 in
theorem do1_any (n : ByteArray) (v : Int) (t : ByteArray) (sl : Value) (b mb r c : Nat) (A : Option Addr) (L : List DocL) (w : World) (hS : St w b mb L) (hM : Sm w r A c L) (hE : Env w) (hn : n.size ≤ 300) (ht : t.size ≤ 300) :
    Calls Tryd.prog 10 #[.agg #[.int .i64 1, .string n, .int .i64 v, .string t, sl], .pointer (some ⟨b, 0, none⟩), .pointer (some ⟨r, 0, none⟩)] w (DoPost (openL L ⟨n.data.toList, v, t.data.toList⟩).1 b mb r w) := by
  have hl8 := hS.len
  have hrl := hM.lt
  have cO := docsOpen_any b mb L ⟨n, v, t⟩ (w.alloc (.cells #[.int .i64 1, .string n, .int .i64 v, .string t, sl] 27)).drew (hS.below (bal w _)).drew (by show n.size ≤ _; omega) (by show t.size ≤ _; omega) (hE.below (bal w _).drew)
  rw [show DocV.l ⟨n, v, t⟩ = ⟨n.data.toList, v, t.data.toList⟩ from rfl] at cO
  have cR := fun w' (hM' : Sm w' r A c L) => refOpen_any r c A L n v t w' hM' (by omega) (by omega) (by omega)
  generalize openL L ⟨n.data.toList, v, t.data.toList⟩ = p at cO cR ⊢
  have HO := Lib.hid cO
  have HR := Lib.hid cR
  have HA := Lib.hid fun (w2 : World) (hg : (w.alloc (.cells #[.int .i64 1, .string n, .int .i64 v, .string t, sl] 27)).drew.grownBy w2 (some mb)) => after_act hS hM hg
  have HB := Lib.hid fun (w2 w3 : World) (h : (w.alloc (.cells #[.int .i64 1, .string n, .int .i64 v, .string t, sl] 27)).heap.size ≤ w2.heap.size) (hg : w2.grownBy w3 (some r)) => after_ref (k := 1) (n := n) (v := v) (t := t) (sl := sl) hM.lt h hg
  obtain ⟨d0, d1, d2, d3, d4⟩ := box_new w 1 n v t sl
  clear cO cR hE hS hM
  go_enter Tryd.func10, Tryd.ntmps10
  go_wp2_with fail
  go_region_held3 (fun w' => w'.cell? ⟨w.heap.size, 0, none⟩ = some (.int .i64 1) ∧ w'.cell? ⟨w.heap.size, 1, none⟩ = some (.string n) ∧ w'.cell? ⟨w.heap.size, 2, none⟩ = some (.int .i64 v) ∧ w'.cell? ⟨w.heap.size, 3, none⟩ = some (.string t) ∧ w'.cell? ⟨w.heap.size, 4, none⟩ = some sl) (first | exact ⟨d0, d1, d2, d3, d4⟩ | exact ⟨f0, f1, f2, f3, f4⟩ | exact ⟨g0, g1, g2, g3, g4⟩) (first
    | (go_at_call 12; refine HO.out.mono ?_; rintro e w2 ⟨rfl, hS2, hg2⟩; obtain ⟨⟨f0, f1, f2, f3, f4⟩, hM2⟩ := HA.out _ hg2)
    | (go_at_call 20; refine (HR.out _ hM2).mono ?_; rintro e w3 ⟨A3, c3, rfl, hM3, hg3⟩; obtain ⟨g0, g1, g2, g3, g4⟩ := HB.out _ _ hg2.size hg3 ⟨f0, f1, f2, f3, f4⟩))
  all_goals go_wp2_with fail
  all_goals (try simp only [Exit.inBlock, Exit.then])
  all_goals go_ret
  all_goals exact ⟨rfl, hS2.kept hM2 hg3, ⟨A3, c3, hM3⟩, kept2_of hg2 hg3⟩
set_option maxRecDepth 100000 in
set_option maxHeartbeats 2000000 in
theorem do2_any (n : ByteArray) (v : Int) (t : ByteArray) (Ae : Option Addr) (ce : Nat) (l : List EdV) (b mb r c : Nat) (A : Option Addr) (L : List DocL) (w : World) (hS : St w b mb L) (hM : Sm w r A c L) (hE : Env w) (hn : n.size ≤ 300) (ht : t.size ≤ 300) (hl : l.length ≤ 12) (hok : ∀ e ∈ l, e.Ok) (hre : RdE w Ae l) (hem : ∀ g o, Ae = some ⟨g, o, none⟩ → 0 < l.length → g ≠ mb) :
    Calls Tryd.prog 10 #[.agg #[.int .i64 2, .string n, .int .i64 v, .string t, .slice Ae l.length ce], .pointer (some ⟨b, 0, none⟩), .pointer (some ⟨r, 0, none⟩)] w (DoPost (changeL L n.data.toList v (l.map EdV.l)).1 b mb r w) := by
  have hl8 := hS.len
  have hrl := hM.lt
  have hrise := hS.rise
  have hdo := hS.ok
  have cO := docsChange_any b mb L n v Ae ce l (w.alloc (.cells #[.int .i64 2, .string n, .int .i64 v, .string t, .slice Ae l.length ce] 27)).drew (hS.below (bal w _)).drew (by omega) (by omega) hok (hre.below (bal w _).drew) (hE.below (bal w _).drew)
  have cR := fun w' (hM' : Sm w' r A c L) (hre' : RdE w' Ae l) => refChange_any r c A L n v Ae ce l w' hM' (by omega) hrise (fun d hd => hdo d hd) (by omega) hok hre'
  generalize changeL L n.data.toList v (l.map EdV.l) = p at cO cR ⊢
  have HO := Lib.hid cO
  have HR := Lib.hid cR
  have HA := Lib.hid fun (w2 : World) (hg : (w.alloc (.cells #[.int .i64 2, .string n, .int .i64 v, .string t, .slice Ae l.length ce] 27)).drew.grownBy w2 (some mb)) => after_act hS hM hg
  have HB := Lib.hid fun (w2 w3 : World) (h : (w.alloc (.cells #[.int .i64 2, .string n, .int .i64 v, .string t, .slice Ae l.length ce] 27)).heap.size ≤ w2.heap.size) (hg : w2.grownBy w3 (some r)) => after_ref (k := 2) (n := n) (v := v) (t := t) (sl := .slice Ae l.length ce) hM.lt h hg
  obtain ⟨d0, d1, d2, d3, d4⟩ := box_new w 2 n v t (.slice Ae l.length ce)
  have HE2 := Lib.hid fun (w2 : World) (hg : (w.alloc (.cells #[.int .i64 2, .string n, .int .i64 v, .string t, .slice Ae l.length ce] 27)).drew.grownBy w2 (some mb)) => RdE.kept (hre.below (bal w _).drew) hg (fun g o hA h0 e => hem g o hA h0 (Option.some.inj e))
  clear cO cR hE hS hM hre hok
  go_enter Tryd.func10, Tryd.ntmps10
  go_wp2_with fail
  go_region_held3 (fun w' => w'.cell? ⟨w.heap.size, 0, none⟩ = some (.int .i64 2) ∧ w'.cell? ⟨w.heap.size, 1, none⟩ = some (.string n) ∧ w'.cell? ⟨w.heap.size, 2, none⟩ = some (.int .i64 v) ∧ w'.cell? ⟨w.heap.size, 3, none⟩ = some (.string t) ∧ w'.cell? ⟨w.heap.size, 4, none⟩ = some (.slice Ae l.length ce)) (first | exact ⟨d0, d1, d2, d3, d4⟩ | exact ⟨f0, f1, f2, f3, f4⟩ | exact ⟨g0, g1, g2, g3, g4⟩) (first
    | (go_at_call 13; refine HO.out.mono ?_; rintro e w2 ⟨rfl, hS2, hg2⟩; obtain ⟨⟨f0, f1, f2, f3, f4⟩, hM2⟩ := HA.out _ hg2)
    | (go_at_call 21; refine (HR.out _ hM2 (HE2.out _ hg2)).mono ?_; rintro e w3 ⟨A3, c3, rfl, hM3, hg3⟩; obtain ⟨g0, g1, g2, g3, g4⟩ := HB.out _ _ hg2.size hg3 ⟨f0, f1, f2, f3, f4⟩))
  all_goals go_wp2_with fail
  all_goals (try simp only [Exit.inBlock, Exit.then])
  all_goals go_ret
  all_goals exact ⟨rfl, hS2.kept hM2 hg3, ⟨A3, c3, hM3⟩, kept2_of hg2 hg3⟩
set_option maxRecDepth 100000 in
set_option maxHeartbeats 2000000 in
theorem do3_any (n : ByteArray) (v : Int) (t : ByteArray) (sl : Value) (b mb r c : Nat) (A : Option Addr) (L : List DocL) (w : World) (hS : St w b mb L) (hM : Sm w r A c L) (hE : Env w) (hn : n.size ≤ 300) (ht : t.size ≤ 300) :
    Calls Tryd.prog 10 #[.agg #[.int .i64 3, .string n, .int .i64 v, .string t, sl], .pointer (some ⟨b, 0, none⟩), .pointer (some ⟨r, 0, none⟩)] w (DoPost (wholeL L n.data.toList v t.data.toList).1 b mb r w) := by
  have hl8 := hS.len
  have hrl := hM.lt
  have hrise := hS.rise
  have cO := docsWhole_any b mb L n v t (w.alloc (.cells #[.int .i64 3, .string n, .int .i64 v, .string t, sl] 27)).drew (hS.below (bal w _)).drew (by omega) (by omega) (hE.below (bal w _).drew)
  have cR := fun w' (hM' : Sm w' r A c L) => refWhole_any r c A L n v t w' hM' (by omega) hrise (by omega)
  generalize wholeL L n.data.toList v t.data.toList = p at cO cR ⊢
  have HO := Lib.hid cO
  have HR := Lib.hid cR
  have HA := Lib.hid fun (w2 : World) (hg : (w.alloc (.cells #[.int .i64 3, .string n, .int .i64 v, .string t, sl] 27)).drew.grownBy w2 (some mb)) => after_act hS hM hg
  have HB := Lib.hid fun (w2 w3 : World) (h : (w.alloc (.cells #[.int .i64 3, .string n, .int .i64 v, .string t, sl] 27)).heap.size ≤ w2.heap.size) (hg : w2.grownBy w3 (some r)) => after_ref (k := 3) (n := n) (v := v) (t := t) (sl := sl) hM.lt h hg
  obtain ⟨d0, d1, d2, d3, d4⟩ := box_new w 3 n v t sl
  clear cO cR hE hS hM
  go_enter Tryd.func10, Tryd.ntmps10
  go_wp2_with fail
  go_region_held3 (fun w' => w'.cell? ⟨w.heap.size, 0, none⟩ = some (.int .i64 3) ∧ w'.cell? ⟨w.heap.size, 1, none⟩ = some (.string n) ∧ w'.cell? ⟨w.heap.size, 2, none⟩ = some (.int .i64 v) ∧ w'.cell? ⟨w.heap.size, 3, none⟩ = some (.string t) ∧ w'.cell? ⟨w.heap.size, 4, none⟩ = some sl) (first | exact ⟨d0, d1, d2, d3, d4⟩ | exact ⟨f0, f1, f2, f3, f4⟩ | exact ⟨g0, g1, g2, g3, g4⟩) (first
    | (go_at_call 14; refine HO.out.mono ?_; rintro e w2 ⟨rfl, hS2, hg2⟩; obtain ⟨⟨f0, f1, f2, f3, f4⟩, hM2⟩ := HA.out _ hg2)
    | (go_at_call 22; refine (HR.out _ hM2).mono ?_; rintro e w3 ⟨A3, c3, rfl, hM3, hg3⟩; obtain ⟨g0, g1, g2, g3, g4⟩ := HB.out _ _ hg2.size hg3 ⟨f0, f1, f2, f3, f4⟩))
  all_goals go_wp2_with fail
  all_goals (try simp only [Exit.inBlock, Exit.then])
  all_goals go_ret
  all_goals exact ⟨rfl, hS2.kept hM2 hg3, ⟨A3, c3, hM3⟩, kept2_of hg2 hg3⟩
set_option maxRecDepth 100000 in
set_option maxHeartbeats 2000000 in
theorem do4_any (n : ByteArray) (v : Int) (t : ByteArray) (sl : Value) (b mb r c : Nat) (A : Option Addr) (L : List DocL) (w : World) (hS : St w b mb L) (hM : Sm w r A c L) (hE : Env w) (hn : n.size ≤ 300) (ht : t.size ≤ 300) :
    Calls Tryd.prog 10 #[.agg #[.int .i64 4, .string n, .int .i64 v, .string t, sl], .pointer (some ⟨b, 0, none⟩), .pointer (some ⟨r, 0, none⟩)] w (DoPost (closeL L n.data.toList).1 b mb r w) := by
  have hl8 := hS.len
  have hrl := hM.lt
  have hrise := hS.rise
  have cO := docsClose_any b mb L n (w.alloc (.cells #[.int .i64 4, .string n, .int .i64 v, .string t, sl] 27)).drew (hS.below (bal w _)).drew (by omega)
  have cR := fun w' (hM' : Sm w' r A c L) => refClose_any r c A L n w' hM' (by omega) hrise
  generalize closeL L n.data.toList = p at cO cR ⊢
  have HO := Lib.hid cO
  have HR := Lib.hid cR
  have HA := Lib.hid fun (w2 : World) (hg : (w.alloc (.cells #[.int .i64 4, .string n, .int .i64 v, .string t, sl] 27)).drew.grownBy w2 (some mb)) => after_act hS hM hg
  have HB := Lib.hid fun (w2 w3 : World) (h : (w.alloc (.cells #[.int .i64 4, .string n, .int .i64 v, .string t, sl] 27)).heap.size ≤ w2.heap.size) (hg : w2.grownBy w3 (some r)) => after_ref (k := 4) (n := n) (v := v) (t := t) (sl := sl) hM.lt h hg
  obtain ⟨d0, d1, d2, d3, d4⟩ := box_new w 4 n v t sl
  clear cO cR hE hS hM
  go_enter Tryd.func10, Tryd.ntmps10
  go_wp2_with fail
  go_region_held3 (fun w' => w'.cell? ⟨w.heap.size, 0, none⟩ = some (.int .i64 4) ∧ w'.cell? ⟨w.heap.size, 1, none⟩ = some (.string n) ∧ w'.cell? ⟨w.heap.size, 2, none⟩ = some (.int .i64 v) ∧ w'.cell? ⟨w.heap.size, 3, none⟩ = some (.string t) ∧ w'.cell? ⟨w.heap.size, 4, none⟩ = some sl) (first | exact ⟨d0, d1, d2, d3, d4⟩ | exact ⟨f0, f1, f2, f3, f4⟩ | exact ⟨g0, g1, g2, g3, g4⟩) (first
    | (go_at_call 15; refine HO.out.mono ?_; rintro e w2 ⟨rfl, hS2, hg2⟩; obtain ⟨⟨f0, f1, f2, f3, f4⟩, hM2⟩ := HA.out _ hg2)
    | (go_at_call 23; refine (HR.out _ hM2).mono ?_; rintro e w3 ⟨A3, c3, rfl, hM3, hg3⟩; obtain ⟨g0, g1, g2, g3, g4⟩ := HB.out _ _ hg2.size hg3 ⟨f0, f1, f2, f3, f4⟩))
  all_goals go_wp2_with fail
  all_goals (try simp only [Exit.inBlock, Exit.then])
  all_goals go_ret
  all_goals exact ⟨rfl, hS2.kept hM2 hg3, ⟨A3, c3, hM3⟩, kept2_of hg2 hg3⟩
set_option maxRecDepth 100000 in
set_option maxHeartbeats 1000000 in
theorem do_any (a : ActV) (Ae : Option Addr) (ce : Nat) (b mb r c : Nat) (A : Option Addr) (L : List DocL) (w : World) (hS : St w b mb L) (hM : Sm w r A c L) (hE : Env w) (hw : a.Wide) (hf : FitsA a) (hre : RdE w Ae a.l) (hem : ∀ g o, Ae = some ⟨g, o, none⟩ → 0 < a.l.length → g ≠ mb) :
    Calls Tryd.prog 10 #[.agg #[.int .i64 a.k, .string a.n, .int .i64 a.v, .string a.t, .slice Ae a.l.length ce], .pointer (some ⟨b, 0, none⟩), .pointer (some ⟨r, 0, none⟩)] w (DoPost (actL L a).1 b mb r w) := by
  obtain ⟨hn, ht, hl, hok⟩ := hf.ok hw
  clear hw hf
  obtain ⟨k, n, v, t, l⟩ := a
  simp only at hn ht hl hok hre hem ⊢
  unfold actL
  simp only
  by_cases h1 : k = 1
  · subst h1
    rw [if_pos rfl]
    exact do1_any n v t _ b mb r c A L w hS hM hE hn ht
  · rw [if_neg h1]
    by_cases h2 : k = 2
    · subst h2
      rw [if_pos rfl]
      exact do2_any n v t Ae ce l b mb r c A L w hS hM hE hn ht hl hok hre hem
    · rw [if_neg h2]
      by_cases h3 : k = 3
      · subst h3
        rw [if_pos rfl]
        exact do3_any n v t _ b mb r c A L w hS hM hE hn ht
      · rw [if_neg h3]
        by_cases h4 : k = 4
        · subst h4
          rw [if_pos rfl]
          exact do4_any n v t _ b mb r c A L w hS hM hE hn ht
        · rw [if_neg h4]
          have k1 : (k == 1) = false := beq_eq_false_iff_ne.2 h1
          have k2 : (k == 2) = false := beq_eq_false_iff_ne.2 h2
          have k3 : (k == 3) = false := beq_eq_false_iff_ne.2 h3
          have k4 : (k == 4) = false := beq_eq_false_iff_ne.2 h4
          have hb : Below w.heap.size w (w.alloc (.cells #[.int .i64 k, .string n, .int .i64 v, .string t, .slice Ae l.length ce] 27)) := bal w _
          have H1 := Lib.hid (hS.below hb)
          have H2 := Lib.hid (hM.below hb)
          clear h1 h2 h3 h4 hok hre hem hE hS hM hb
          go_enter Tryd.func10, Tryd.ntmps10
          go_wp2
          (try simp only [Exit.inBlock, Exit.then])
          go_ret
          exact ⟨rfl, H1.out, ⟨A, c, H2.out⟩, kept2_alloc w _ mb r⟩
end Go.Proofs.YtcadfaecoldcpaaDoor

/-
  THE WALK of layer 7's alive. Conditions: what Env says of the world.
-/
set_option linter.unusedVariables false
set_option linter.unusedSimpArgs false
namespace Go.Proofs.YtcadfaecoldcpaaDoor
open Go.RowKit Go.Lib Go.Shelf Go.Maps

def lvDB : DocL := ⟨[98], 3, [120, 121]⟩
def lvDC : DocL := ⟨[98], 4, [97, 120, 121]⟩
def lvEa : EdV := ⟨0, 0, 0, 0, ⟨#[97]⟩⟩
set_option maxRecDepth 100000 in
theorem lv7_open : openL [] lvDB = ([lvDB], 0) := by
  unfold openL
  rw [if_pos (by decide), if_pos (by decide), if_neg (by decide), if_neg (by decide)]
  rfl
set_option maxRecDepth 100000 in
theorem lv7_apply : applyL [120, 121] [lvEa.l] = ([97, 120, 121], 0) := by decide
set_option maxRecDepth 100000 in
theorem lv7_change : changeL [lvDB] [98] 4 [lvEa.l] = ([lvDC], 0) := by
  unfold changeL becomeL
  rw [show findL [lvDB] [98] = some lvDB from rfl]
  simp only
  rw [show lvDB.t = [120, 121] from rfl, lv7_apply, if_neg (by decide), if_pos rfl]
  rfl
set_option maxRecDepth 100000 in
theorem lv7_whole : wholeL [lvDC] [98] 4 [] = ([lvDC], 71) := by
  unfold wholeL becomeL
  rw [show findL [lvDC] [98] = some lvDC from rfl]
  simp only
  rw [if_pos (by decide)]
set_option maxRecDepth 100000 in
theorem lv7_twice : openL [lvDC] ⟨[98], 0, []⟩ = ([lvDC], 74) := by
  unfold openL
  rw [if_pos (by decide), if_pos (by decide), if_neg (by decide), if_pos (by decide)]

/-- What an act of a store answers, spelt. -/
def ActN (k : Int) (L : List DocL) (b mb : Nat) (w : World) (e : Ending) (w' : World) : Prop := e = .returned (.int .i64 k) ∧ St w' b mb L ∧ w.grownBy w' (some mb)
theorem actN_of {p : List DocL × Nat} {L : List DocL} {k : Nat} {b mb : Nat} {w : World} (h : p = (L, k)) : ∀ e w', ActPost p b mb w e w' → ActN (k : Nat) L b mb w e w' := by
  subst h
  exact fun e w' h => h
theorem below_act {B : Nat} {w0 w w' : World} {mb : Nat} (h : Below B w0 w) (hB : B ≤ w.heap.size) (hm : B ≤ mb) (hg : w.grownBy w' (some mb)) : Below B w0 w' ∧ B ≤ w'.heap.size :=
  ⟨h.grown hg hB (fun k e => by cases e; exact hm), by have := hg.size; omega⟩
set_option maxRecDepth 100000 in
theorem doc_at {w : World} {A : Option Addr} (h : RdD w A [lvDC]) : ∃ g o : Nat, A = some ⟨g, o, none⟩ ∧ w.cell? ⟨g, o, none⟩ = some (.string ⟨#[98]⟩) ∧ w.cell? ⟨g, o + 1, none⟩ = some (.int .i64 4) ∧ w.cell? ⟨g, o + 2, none⟩ = some (.string ⟨#[97, 120, 121]⟩) := by
  obtain ⟨g, o, hA, _, c0, c1, c2⟩ := h 0 (by decide)
  exact ⟨g, o, hA, c0, c1, c2⟩

set_option maxRecDepth 100000 in
set_option maxHeartbeats 2000000 in
theorem alive07_any (w : World) (hE : Env w) : Calls Tryd.prog 9 #[] w (BoolPost true w) := by
  have c2 : ∀ b mb w', St w' b mb [] → Env w' → Calls Tryd.prog 12 #[.pointer (some ⟨b, 0, none⟩), .agg #[.string ⟨#[98]⟩, .int .i64 3, .string ⟨#[120, 121]⟩]] w' (ActN 0 [lvDB] b mb w') := fun b mb w' h he =>
    (docsOpen_any b mb [] ⟨⟨#[98]⟩, 3, ⟨#[120, 121]⟩⟩ w' h (by decide) (by decide) he).mono (actN_of lv7_open)
  have ok : ∀ e ∈ [lvEa], e.Ok := by
    intro e he
    rw [List.mem_singleton] at he
    subst he
    exact ⟨by decide, by decide, by decide⟩
  have c3 : ∀ b mb w', St w' b mb [lvDB] → Env w' → Calls Tryd.prog 13 #[.pointer (some ⟨b, 0, none⟩), .string ⟨#[98]⟩, .int .i64 4, .slice (some ⟨w'.heap.size, 0, none⟩) 1 1] (w'.alloc (.cells #[.int .i64 0, .int .i64 0, .int .i64 0, .int .i64 0, .string ⟨#[97]⟩] 56)) (ActN 0 [lvDC] b mb (w'.alloc (.cells #[.int .i64 0, .int .i64 0, .int .i64 0, .int .i64 0, .string ⟨#[97]⟩] 56))) := fun b mb w' h he =>
    (docsChange_any b mb [lvDB] ⟨#[98]⟩ 4 (some ⟨w'.heap.size, 0, none⟩) 1 [lvEa] _ (h.below (bal w' _)) (by decide) (by decide) ok (rdE_one w' lvEa _) (he.below (bal w' _))).mono (actN_of lv7_change)
  have c4 : ∀ b mb w', St w' b mb [lvDC] → Env w' → Calls Tryd.prog 14 #[.pointer (some ⟨b, 0, none⟩), .string ⟨#[98]⟩, .int .i64 4, .string ⟨#[]⟩] w' (ActN 71 [lvDC] b mb w') := fun b mb w' h he =>
    (docsWhole_any b mb [lvDC] ⟨#[98]⟩ 4 ⟨#[]⟩ w' h (by decide) (by decide) he).mono (actN_of lv7_whole)
  have c5 : ∀ b mb w', St w' b mb [lvDC] → Env w' → Calls Tryd.prog 12 #[.pointer (some ⟨b, 0, none⟩), .agg #[.string ⟨#[98]⟩, .int .i64 0, .string ⟨#[]⟩]] w' (ActN 74 [lvDC] b mb w') := fun b mb w' h he =>
    (docsOpen_any b mb [lvDC] ⟨⟨#[98]⟩, 0, ⟨#[]⟩⟩ w' h (by decide) (by decide) he).mono (actN_of lv7_twice)
  have c6 : ∀ b mb w', St w' b mb [lvDC] → Calls Tryd.prog 11 #[.pointer (some ⟨b, 0, none⟩)] w' (fun e w'' => ∃ (g o c : Nat), e = .returned (.slice (some ⟨g, o, none⟩) 1 c) ∧ (w''.cell? ⟨g, o, none⟩ = some (.string ⟨#[98]⟩) ∧ w''.cell? ⟨g, o + 1, none⟩ = some (.int .i64 4) ∧ w''.cell? ⟨g, o + 2, none⟩ = some (.string ⟨#[97, 120, 121]⟩)) ∧ Below w'.heap.size w' w'') := fun b mb w' h => by
    refine (docsAll_any b mb [lvDC] w' h).mono ?_
    rintro e w'' ⟨A, c, rfl, hR, hb⟩
    obtain ⟨g, o, rfl, h0, h1, h2⟩ := doc_at hR
    exact ⟨g, o, c, rfl, ⟨h0, h1, h2⟩, hb⟩
  have c7 : ∀ b mb w', St w' b mb [lvDC] → Calls Tryd.prog 18 #[.pointer (some ⟨b, 0, none⟩)] w' (fun e w'' => e = .returned (.int .i64 3) ∧ Below w'.heap.size w' w'') := fun b mb w' h => docsSize_any b mb [lvDC] w' h
  have H1 := Lib.hid (docsNew_any w)
  have H2 := Lib.hid c2
  have H3 := Lib.hid c3
  have H4 := Lib.hid c4
  have H5 := Lib.hid c5
  have H6 := Lib.hid c6
  have H7 := Lib.hid c7
  have HE := Lib.hid hE
  clear c2 c3 c4 c5 c6 c7 ok hE
  go_enter Tryd.func9, Tryd.ntmps9
  go_wp2_with (first
    | (go_at_call 18; refine (H7.out b mb _ (hS5.out.below hw6)).mono ?_; rintro e w7 ⟨rfl, hb7⟩; replace hb7 := bth hb6 hb7)
    | (go_at_call 11; refine (H6.out b mb _ hS5.out).mono ?_; rintro e w6 ⟨g, o, c, rfl, ⟨d0, d1, d2⟩, hw6⟩; have hb6 := bth hb5.1 hw6)
    | (go_at_call 12; refine (H5.out b mb _ hS4.out (HE.out.below hb4.1)).mono ?_; rintro e w5 ⟨rfl, hS5, hg5⟩; replace hS5 := Lib.hid hS5; have hb5 := below_act hb4.1 hb4.2 hm hg5; clear hg5)
    | (go_at_call 14; refine (H4.out b mb _ hS3.out (HE.out.below hb3.1)).mono ?_; rintro e w4 ⟨rfl, hS4, hg4⟩; replace hS4 := Lib.hid hS4; have hb4 := below_act hb3.1 hb3.2 hm hg4; clear hg4)
    | (go_at_call 13; refine (H3.out b mb _ hS2.out (HE.out.below hb2.1)).mono ?_; rintro e w3 ⟨rfl, hS3, hg3⟩; replace hS3 := Lib.hid hS3; have hb3 := below_act (hb2.1.alloc hb2.2 _) (by rw [World.size_alloc]; omega) hm hg3; clear hg3)
    | (go_at_call 12; refine (H2.out b mb _ hS1.out (HE.out.below hb1)).mono ?_; rintro e w2 ⟨rfl, hS2, hg2⟩; replace hS2 := Lib.hid hS2; have hb2 := below_act hb1 hb1.size hm hg2; clear hg2)
    | (go_at_call 7; refine H1.out.mono ?_; rintro e w1 ⟨b, mb, rfl, hS1, hbb, hm, hb1⟩; replace hS1 := Lib.hid hS1))
  go_ret
  exact ⟨rfl, hb7⟩
end Go.Proofs.YtcadfaecoldcpaaDoor

/-
  PLAIN LAW of layer 7's acts, and a slice of acts in memory. Conditions: stated at each.
-/
set_option linter.unusedVariables false
set_option linter.unusedSimpArgs false
namespace Go.Proofs.YtcadfaecoldcpaaDoor
open Go.RowKit Go.Lib Go.Shelf Go.Maps

theorem actL_no {L : List DocL} {a : ActV} (h : (actL L a).2 ≠ 0) : (actL L a).1 = L := by
  unfold actL at h ⊢
  by_cases h1 : a.k = 1
  · rw [if_pos h1] at h ⊢
    exact openL_no h
  · rw [if_neg h1] at h ⊢
    by_cases h2 : a.k = 2
    · rw [if_pos h2] at h ⊢
      exact becomeL_no h
    · rw [if_neg h2] at h ⊢
      by_cases h3 : a.k = 3
      · rw [if_pos h3] at h ⊢
        exact becomeL_no h
      · rw [if_neg h3] at h ⊢
        by_cases h4 : a.k = 4
        · rw [if_pos h4] at h ⊢
          exact closeL_no h
        · rw [if_neg h4]
/-- A document that was there is there as it was, or newer; or it is closed. -/
def KeptD (L' : List DocL) (k : Int) (x : DocL) : Prop := (hasL L' x.n = true ∧ (getL L' x.n = x ∨ x.v < (getL L' x.n).v)) ∨ (hasL L' x.n = false ∧ k = 4)
theorem keptD_same {L : List DocL} (hr : RiseL L) {x : DocL} (hx : x ∈ L) (k : Int) : KeptD L k x := .inl ⟨hasL_iff.2 ⟨x, hx, rfl⟩, .inl (getL_mem hr hx)⟩
theorem openL_kept {L : List DocL} (hr : RiseL L) {x : DocL} (hx : x ∈ L) (k : Int) (d : DocL) : KeptD (openL L d).1 k x := by
  unfold openL
  split
  · split
    · split
      · exact keptD_same hr hx k
      · split
        · exact keptD_same hr hx k
        · rename_i hh
          have hh' : hasL L d.n = false := by simpa using hh
          exact keptD_same (insL_rise hr hh') (insL_mem.2 (.inr hx)) k
    · exact keptD_same hr hx k
  · exact keptD_same hr hx k
theorem putL_kept {L : List DocL} (hr : RiseL L) {x d : DocL} (hx : x ∈ L) (k : Int) (n : List UInt8) (v : Int) (t : List UInt8) (hf : findL L n = some d) (hv : d.v < v) : KeptD (putL L ⟨n, v, t⟩) k x := by
  obtain ⟨hd, hdn⟩ := findL_some hf
  have hr' := putL_rise hr ⟨n, v, t⟩
  by_cases hn : x.n = n
  · have hxd : x = d := rise_inj hr hx hd (hn.trans hdn.symm)
    have hm : (⟨n, v, t⟩ : DocL) ∈ putL L ⟨n, v, t⟩ := by
      unfold putL
      refine List.mem_map.2 ⟨x, hx, ?_⟩
      rw [if_pos (by simpa using hn)]
    have hg := getL_mem hr' hm
    have hh : hasL (putL L ⟨n, v, t⟩) x.n = true := hasL_iff.2 ⟨_, hm, hn.symm⟩
    refine .inl ⟨hh, .inr ?_⟩
    rw [hn, show getL (putL L ⟨n, v, t⟩) n = ⟨n, v, t⟩ from hg, hxd]
    exact hv
  · have hm : x ∈ putL L ⟨n, v, t⟩ := by
      unfold putL
      refine List.mem_map.2 ⟨x, hx, ?_⟩
      rw [if_neg (by simpa using hn)]
    exact keptD_same hr' hm k
theorem becomeL_kept {L : List DocL} (hr : RiseL L) {x : DocL} (hx : x ∈ L) (k : Int) (n : List UInt8) (v : Int) (f : List UInt8 → List UInt8 × Nat) : KeptD (becomeL L n v f).1 k x := by
  unfold becomeL
  split
  · exact keptD_same hr hx k
  · rename_i d hf
    split
    · exact keptD_same hr hx k
    · rename_i hv
      split
      · exact putL_kept hr hx k n v _ hf (by omega)
      · exact keptD_same hr hx k
theorem closeL_kept {L : List DocL} (hr : RiseL L) {x : DocL} (hx : x ∈ L) (n : List UInt8) : KeptD (closeL L n).1 4 x := by
  unfold closeL
  split
  · have hr' := dropL_rise hr n
    by_cases hn : x.n = n
    · refine .inr ⟨?_, rfl⟩
      cases hh : hasL (dropL L n) x.n with
      | false => rfl
      | true =>
        obtain ⟨y, hy, he⟩ := hasL_iff.1 hh
        unfold dropL at hy
        obtain ⟨_, hy2⟩ := List.mem_filter.1 hy
        rw [he, hn] at hy2
        simp at hy2
    · have hm : x ∈ dropL L n := by
        unfold dropL
        refine List.mem_filter.2 ⟨hx, ?_⟩
        simpa using hn
      exact keptD_same hr' hm 4
  · exact keptD_same hr hx 4
theorem actL_kept {L : List DocL} (hr : RiseL L) {x : DocL} (hx : x ∈ L) (a : ActV) : KeptD (actL L a).1 a.k x := by
  unfold actL
  by_cases h1 : a.k = 1
  · rw [if_pos h1]
    exact openL_kept hr hx _ _
  · rw [if_neg h1]
    by_cases h2 : a.k = 2
    · rw [if_pos h2]
      exact becomeL_kept hr hx _ _ _ _
    · rw [if_neg h2]
      by_cases h3 : a.k = 3
      · rw [if_pos h3]
        exact becomeL_kept hr hx _ _ _ _
      · rw [if_neg h3]
        by_cases h4 : a.k = 4
        · rw [if_pos h4, h4]
          exact closeL_kept hr hx _
        · rw [if_neg h4]
          exact keptD_same hr hx _

/-- A slice of acts. -/
def RdA (w : World) (A : Option Addr) (l : List ActV) : Prop := ∀ i (h : i < l.length), ∃ (g o : Nat) (Ae : Option Addr) (ce : Nat), A = some ⟨g, o, none⟩ ∧ g < w.heap.size ∧
  w.cell? ⟨g, o + i * 5, none⟩ = some (.int .i64 (l[i]'h).k) ∧ w.cell? ⟨g, o + i * 5 + 1, none⟩ = some (.string (l[i]'h).n) ∧ w.cell? ⟨g, o + i * 5 + 2, none⟩ = some (.int .i64 (l[i]'h).v) ∧ w.cell? ⟨g, o + i * 5 + 3, none⟩ = some (.string (l[i]'h).t) ∧ w.cell? ⟨g, o + i * 5 + 4, none⟩ = some (.slice Ae (l[i]'h).l.length ce) ∧ RdE w Ae (l[i]'h).l
theorem RdA.below {w w' : World} {A : Option Addr} {l : List ActV} (h : RdA w A l) (hb : Below w.heap.size w w') : RdA w' A l := by
  intro i hi
  obtain ⟨g, o, Ae, ce, hA, hlt, c0, c1, c2, c3, c4, hr⟩ := h i hi
  have hs := hb.size
  have k : ∀ n, w'.cell? ⟨g, n, none⟩ = w.cell? ⟨g, n, none⟩ := fun n => hb.cell hlt
  exact ⟨g, o, Ae, ce, hA, by omega, (k _).trans c0, (k _).trans c1, (k _).trans c2, (k _).trans c3, (k _).trans c4, hr.below hb⟩
/-- The edits of an argument's act lie apart from what the call has made. -/
theorem RdE.apart {w : World} {A : Option Addr} {l : List EdV} (h : RdE w A l) {mb : Nat} (hm : w.heap.size ≤ mb) : ∀ g o, A = some ⟨g, o, none⟩ → 0 < l.length → g ≠ mb := by
  intro g o hA h0 e
  obtain ⟨g', o', hA', hlt, _⟩ := h 0 h0
  rw [hA] at hA'
  obtain ⟨rfl, rfl⟩ : g = g' ∧ o = o' := by injection hA' with h1; injection h1 with h2 h3; exact ⟨h2, h3⟩
  omega
theorem rdD_nr {w : World} {A A' : Option Addr} {l L : List DocL} {r c : Nat} (h : RdD w A l) (hM : Sm w r A' c L) : ∀ g o, A = some ⟨g, o, none⟩ → 0 < l.length → g ≠ r := by
  intro g o hA h0 e
  subst e
  obtain ⟨g', o', hA', _, c0, _⟩ := h 0 h0
  rw [hA] at hA'
  obtain ⟨rfl, rfl⟩ : g = g' ∧ o = o' := by injection hA' with h1; injection h1 with h2 h3; exact ⟨h2, h3⟩
  rw [cell_of_row _ _ _ _ _ _ hM.box] at c0
  cases o with
  | zero => simp at c0
  | succ k => simp at c0
theorem rdD_nmap {w : World} {A : Option Addr} {l M : List DocL} {mb : Nat} (h : RdD w A l) (hm : MapIs w mb M) : ∀ g o, A = some ⟨g, o, none⟩ → 0 < l.length → g ≠ mb := by
  obtain ⟨es, clock, hb, _⟩ := hm
  intro g o hA h0 e
  obtain ⟨g', o', hA', _, c0, _⟩ := h 0 h0
  rw [hA] at hA'
  obtain ⟨rfl, rfl⟩ : g = g' ∧ o = o' := by injection hA' with h1; injection h1 with h2 h3; exact ⟨h2, h3⟩
  subst e
  unfold World.cell? at c0
  simp only [hb] at c0
  cases c0
theorem RdD.kept2 {w w' : World} {A : Option Addr} {l : List DocL} {mb r : Nat} (h : RdD w A l) (hk : Kept2 w w' mb r) (h1 : ∀ g o, A = some ⟨g, o, none⟩ → 0 < l.length → g ≠ mb) (h2 : ∀ g o, A = some ⟨g, o, none⟩ → 0 < l.length → g ≠ r) : RdD w' A l := by
  intro i hi
  obtain ⟨g, o, hA, hlt, c0, c1, c2⟩ := h i hi
  have hs := hk.2.1
  have k : ∀ n, w'.cell? ⟨g, n, none⟩ = w.cell? ⟨g, n, none⟩ := fun n => World.cell?_of_block (hk.2.2 g hlt (h1 g o hA (by omega)) (h2 g o hA (by omega)))
  exact ⟨g, o, hA, by omega, (k _).trans c0, (k _).trans c1, (k _).trans c2⟩
end Go.Proofs.YtcadfaecoldcpaaDoor
