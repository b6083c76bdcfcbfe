/-
  THE WALK of edits.Between. Conditions: stated at each.
-/
import Derived.Test.YtadkjeefiacdbaaDoorEdD
import Derived.Test.YtadkjeefiacdbaaDoorEdE
import Derived.Deep.CutBlock
import Derived.Deep.DeepCutAuto
set_option linter.unusedVariables false
set_option linter.unusedSimpArgs false
namespace Go.Proofs.YtadkjeefiacdbaaDoor
open Go.RowKit Go.Lib Go.Shelf

theorem load_edit (w : World) (b : Nat) (v : EdV) (h0 : w.cell? ⟨b, 0, none⟩ = some (.int .i64 v.fl)) (h1 : w.cell? ⟨b, 1, none⟩ = some (.int .i64 v.fu)) (h2 : w.cell? ⟨b, 2, none⟩ = some (.int .i64 v.tl)) (h3 : w.cell? ⟨b, 3, none⟩ = some (.int .i64 v.tu)) (h4 : w.cell? ⟨b, 4, none⟩ = some (.string v.t)) : (loadVar 51 ⟨b, 0, none⟩).run Tryd.prog w = .ok v.val w := by
  unfold EdV.val EdV.cells
  go_simp
/-- An edit, and the error. -/
def EdPost (v : EdV) (k : Nat) (w : World) (e : Ending) (w' : World) : Prop := e = .returned (.tuple #[v.val, .int .i64 (k : Nat)]) ∧ Below w.heap.size w w'
theorem ret_edit {fn : Func} {p u : Tmp} {a : Act} {w w' : World} {v : EdV} {k : Nat} (h : fn.results = #[.cell p 51, .tmp u]) (hd : a.defers = []) {g : Nat} (hp : a.tmps.getD p undef = .pointer (some ⟨g, 0, none⟩))
    (h0 : w'.cell? ⟨g, 0, none⟩ = some (.int .i64 v.fl)) (h1 : w'.cell? ⟨g, 1, none⟩ = some (.int .i64 v.fu)) (h2 : w'.cell? ⟨g, 2, none⟩ = some (.int .i64 v.tl)) (h3 : w'.cell? ⟨g, 3, none⟩ = some (.int .i64 v.tu)) (h4 : w'.cell? ⟨g, 4, none⟩ = some (.string v.t)) (hu : a.tmps.getD u undef = .int .i64 (k : Nat)) (hb : Below w.heap.size w w') :
    bodyPost Tryd.prog fn (EdPost v k w) .ret a w' := by
  refine bodyPost_ret (v := .tuple #[v.val, .int .i64 (k : Nat)]) ?_ hd ⟨rfl, hb⟩
  rw [results_cell_tmp h, hp, hu, show (asAddr (.pointer (some ⟨g, 0, none⟩))).run Tryd.prog w' = .ok ⟨g, 0, none⟩ w' from rfl]
  show ((loadVar 51 ⟨g, 0, none⟩).run Tryd.prog w').andThen _ = _
  rw [load_edit w' g v h0 h1 h2 h3 h4]
  rfl

/-- Two texts that a call keeps, and the cells of its result. -/
theorem boxes3 {w w' : World} {x y : Value} {C : Array Value} {t s : TypeId} (h : Below (((w.alloc (.cells #[x] t)).alloc (.cells #[y] t)).alloc (.cells C s)).heap.size (((w.alloc (.cells #[x] t)).alloc (.cells #[y] t)).alloc (.cells C s)) w') :
    w'.cell? ⟨w.heap.size, 0, none⟩ = some x ∧ w'.cell? ⟨w.heap.size + 1, 0, none⟩ = some y ∧ w'.heap[w.heap.size + 2]? = some (.cells C s) ∧ Below w.heap.size w w' ∧ w.heap.size + 3 ≤ w'.heap.size := by
  have h2 := bth (bal ((w.alloc (.cells #[x] t)).alloc (.cells #[y] t)) (.cells C s)) h
  have h1 := bth (bal (w.alloc (.cells #[x] t)) (.cells #[y] t)) h2
  have hs := h.size
  rw [World.size_alloc, World.size_alloc, World.size_alloc] at hs
  refine ⟨boxN h1 0 rfl, ?_, ?_, bth (bal w _) h1, hs⟩
  · have := boxN h2 0 (v := y) rfl
    rwa [World.size_alloc] at this
  · have := (h.block ((w.alloc (.cells #[x] t)).alloc (.cells #[y] t)).heap.size (by simp)).trans (heap_alloc_new _ _)
    rwa [World.size_alloc, World.size_alloc] at this

theorem five_cf {w : World} {g : Nat} {v0 v1 v2 v3 v4 : Value} {t : TypeId} (h : w.heap[g]? = some (.cells #[v0, v1, v2, v3, v4] t)) : (∀ k v, #[v0, v1, v2, v3, v4][k]? = some v → w.cell? ⟨g, k, none⟩ = some v) ∧ (∀ k, w.frozen? ⟨g, k, none⟩ = false) := by
  refine ⟨fun k v hk => by rw [cell_of_row _ _ k _ _ _ h]; exact hk, fun k => ?_⟩
  unfold World.frozen?
  simp only [h]
  simp

theorem set_get {w : World} {g k : Nat} {C : Array Value} {t : TypeId} {u : Value} (h : w.heap[g]? = some (.cells C t)) : (w.setCell ⟨g, k, none⟩ u).heap[g]? = some (.cells (C.setIfInBounds k u) t) := by
  rw [show (w.setCell ⟨g, k, none⟩ u).heap[g]? = _ from Array.getElem?_modify .., if_pos rfl, h]
  rfl
theorem set5 {w : World} {g : Nat} {v0 v1 v2 v3 v4 u0 u1 u2 u3 u4 : Value} {t : TypeId} (h : w.heap[g]? = some (.cells #[v0, v1, v2, v3, v4] t)) :
    (((((w.setCell ⟨g, 0, none⟩ u0).setCell ⟨g, 1, none⟩ u1).setCell ⟨g, 2, none⟩ u2).setCell ⟨g, 3, none⟩ u3).setCell ⟨g, 4, none⟩ u4).heap[g]? = some (.cells #[u0, u1, u2, u3, u4] t) :=
  set_get (set_get (set_get (set_get (set_get h))))
theorem drew_get (w : World) (g : Nat) : w.drew.heap[g]? = w.heap[g]? := rfl
theorem set5d {w : World} {g : Nat} {v0 v1 v2 v3 v4 u0 u1 u2 u3 u4 : Value} {t : TypeId} (h : w.heap[g]? = some (.cells #[v0, v1, v2, v3, v4] t)) :
    (((((w.setCell ⟨g, 0, none⟩ u0).setCell ⟨g, 1, none⟩ u1).setCell ⟨g, 2, none⟩ u2).setCell ⟨g, 3, none⟩ u3).setCell ⟨g, 4, none⟩ u4).drew.heap[g]? = some (.cells #[u0, u1, u2, u3, u4] t) := (drew_get _ _).trans (set5 h)
theorem below_set5 {w w' : World} {g : Nat} (h : Below w.heap.size w w') (hg : w.heap.size ≤ g) (u0 u1 u2 u3 u4 : Value) : Below w.heap.size w (((((w'.setCell ⟨g, 0, none⟩ u0).setCell ⟨g, 1, none⟩ u1).setCell ⟨g, 2, none⟩ u2).setCell ⟨g, 3, none⟩ u3).setCell ⟨g, 4, none⟩ u4) := ((((h.setCell hg _).setCell hg _).setCell hg _).setCell hg _).setCell hg _

def zeroV : EdV := ⟨0, 0, 0, 0, ⟨#[]⟩⟩
noncomputable def betV (a b : ByteArray) : EdV := ⟨((placeP a.data.toList (begN a.data.toList b.data.toList : Nat)).1 : Nat), ((placeP a.data.toList (begN a.data.toList b.data.toList : Nat)).2.1 : Nat), ((placeP a.data.toList ((a.data.toList.length - finR a.data.toList b.data.toList : Nat) : Int)).1 : Nat), ((placeP a.data.toList ((a.data.toList.length - finR a.data.toList b.data.toList : Nat) : Int)).2.1 : Nat), b.extract (begN a.data.toList b.data.toList) (b.size - finR a.data.toList b.data.toList)⟩

theorem by_inj {x y : List UInt8} {i j : Nat} : by_ x i = by_ y j ↔ x.getD i 0 = y.getD j 0 := by
  unfold by_
  exact UInt8.toNat_inj
theorem count_pre {a b : ByteArray} {c : Nat} (h : CountOk (by_ a.data.toList) (by_ b.data.toList) (min a.size b.size) c) : c = cpre a.data.toList b.data.toList := by
  obtain ⟨h1, h2, h3⟩ := h
  rw [size_eq, size_eq] at h1 h3
  refine (cpre_eq (by omega) (by omega) (fun k hk => by_inj.1 (h2 k hk)) ?_).symm
  rcases h3 with h3 | h3
  · omega
  · exact .inr (.inr fun h => h3 (by_inj.2 h))
theorem getD_rev_drop (l : List UInt8) (n k : Nat) (h : n + k < l.length) : (l.drop n).reverse.getD k 0 = l.getD (l.length - 1 - k) 0 := by
  rw [List.getD_eq_getElem?_getD, List.getElem?_reverse (by rw [List.length_drop]; omega), List.length_drop, List.getElem?_drop, List.getD_eq_getElem?_getD]
  congr 2
  omega
theorem count_suf {a b : ByteArray} {n c : Nat} (hn : n ≤ min a.size b.size) (h : CountOk (fun k => by_ a.data.toList (a.size - 1 - k)) (fun k => by_ b.data.toList (b.size - 1 - k)) (min a.size b.size - n) c) : c = cpre (a.data.toList.drop n).reverse (b.data.toList.drop n).reverse := by
  obtain ⟨h1, h2, h3⟩ := h
  rw [size_eq, size_eq] at h1 h3 hn
  rw [size_eq, size_eq] at h2
  refine (cpre_eq (by rw [List.length_reverse, List.length_drop]; omega) (by rw [List.length_reverse, List.length_drop]; omega) (fun k hk => ?_) ?_).symm
  · rw [getD_rev_drop _ _ _ (by omega), getD_rev_drop _ _ _ (by omega)]
    exact by_inj.1 (h2 k hk)
  · rw [List.length_reverse, List.length_reverse, List.length_drop, List.length_drop]
    rcases h3 with h3 | h3
    · omega
    · by_cases hc : c < min a.data.toList.length b.data.toList.length - n
      · rw [getD_rev_drop _ _ _ (by omega), getD_rev_drop _ _ _ (by omega)]
        exact .inr (.inr fun h => h3 (by_inj.2 h))
      · omega
theorem beg_down (la lb : List UInt8) (hva : validD la = true) (hvb : validD lb = true) {k : Nat} (hk : k ≤ cpre la lb) (h0 : 0 < k) (h : (k < la.length ∧ contB (la.getD k 0) = true) ∨ (k < lb.length ∧ contB (lb.getD k 0) = true)) : maxK (pOk la) k = maxK (pOk la) (k - 1) := by
  have hl := cpre_le la lb
  refine maxK_down _ h0 ?_
  cases hp : pOk la k with
  | false => rfl
  | true =>
    unfold pOk at hp
    rcases h with ⟨h1, h2⟩ | ⟨h1, h2⟩
    · have := ((start_nat la k).1 ((start_iff la hva k (by omega)).1 hp)).2 h1
      rw [h2] at this
      exact absurd this (by decide)
    · rw [(cpre_take la lb k (by omega) (by omega)).2 hk] at hp
      have := ((start_nat lb k).1 ((start_iff lb hvb k (by omega)).1 hp)).2 h1
      rw [h2] at this
      exact absurd this (by decide)
theorem beg_stay (la lb : List UInt8) (hva : validD la = true) {k : Nat} (hk : k ≤ cpre la lb) (h : k = 0 ∨ k = la.length ∨ contB (la.getD k 0) = false) : maxK (pOk la) k = k := by
  have hl := cpre_le la lb
  refine maxK_self _ ?_
  rcases h with h | h | h
  · exact .inl h
  · exact .inr ((start_iff la hva k (by omega)).2 ((start_nat la k).2 ⟨by omega, fun hx => by omega⟩))
  · exact .inr ((start_iff la hva k (by omega)).2 ((start_nat la k).2 ⟨by omega, fun _ => h⟩))
theorem fin_down (la : List UInt8) (n : Nat) (hv : validD (la.drop n) = true) {k : Nat} (hn : n ≤ la.length) (hk : k ≤ la.length - n) (h0 : 0 < k) (h : contB (la.getD (la.length - k) 0) = true) : maxK (qOk (la.drop n)) k = maxK (qOk (la.drop n)) (k - 1) := by
  refine maxK_down _ h0 ?_
  cases hp : qOk (la.drop n) k with
  | false => rfl
  | true =>
    unfold qOk at hp
    have := ((start_nat (la.drop n) _).1 ((drop_iff (la.drop n) hv _ (by omega)).1 hp)).2 (by rw [List.length_drop]; omega)
    rw [getD_drop', List.length_drop, show n + (la.length - n - k) = la.length - k by omega, h] at this
    exact absurd this (by decide)
theorem fin_stay (la : List UInt8) (n : Nat) (hv : validD (la.drop n) = true) {k : Nat} (hn : n ≤ la.length) (hk : k ≤ la.length - n) (h : k = 0 ∨ contB (la.getD (la.length - k) 0) = false) : maxK (qOk (la.drop n)) k = k := by
  refine maxK_self _ ?_
  rcases h with h | h
  · exact .inl h
  · refine .inr ((drop_iff (la.drop n) hv _ (by omega)).2 ((start_nat (la.drop n) _).2 ⟨by omega, fun hx => ?_⟩))
    rw [getD_drop', List.length_drop, show n + (la.length - n - k) = la.length - k by rw [List.length_drop] at hx; omega]
    exact h
theorem drop_beg (a b : List UInt8) (ha : validD a = true) : validD (a.drop (begN a b)) = true := by
  rw [← validD_append _ (a.drop (begN a b)) (begN_ok a b), List.take_append_drop]
  exact ha

set_option maxRecDepth 100000 in
set_option maxHeartbeats 1000000 in
theorem edBetween_ok (a b : ByteArray) (w : World) (hsa : a.size ≤ 4194304) (hsb : b.size ≤ 4194304) (hva : validD a.data.toList = true) (hvb : validD b.data.toList = true) (hE : Env w) :
    Calls Tryd.prog 26 #[.string a, .string b] w (EdPost (betV a b) 0 w) := by
  have cRa := fun w' hT => right_any a w' (by omega) hT
  have cRb := fun w' hT => right_any b w' (by omega) hT
  rw [hva] at cRa
  rw [hvb] at cRb
  have hm1 : min a.size b.size ≤ a.size := Nat.min_le_left _ _
  have hm2 : min a.size b.size ≤ b.size := Nat.min_le_right _ _
  have cC : ∀ ga gb w', ga < w'.heap.size → gb < w'.heap.size → w'.cell? ⟨ga, 0, none⟩ = some (.string a) → w'.cell? ⟨gb, 0, none⟩ = some (.string b) → Calls Tryd.prog 40 #[.int .i64 (min (a.size : Int) (b.size : Int)), .func (.func 41) #[] #[.pointer (some ⟨ga, 0, none⟩), .pointer (some ⟨gb, 0, none⟩)]] w' (CountPost (by_ a.data.toList) (by_ b.data.toList) (min a.size b.size) w') := fun ga gb w' h1 h2 h3 h4 => by
    rw [show min (a.size : Int) (b.size : Int) = ((min a.size b.size : Nat) : Int) by omega]
    exact edCount1_any a b ga gb (min a.size b.size) w' hm1 hm2 hsa hsb h1 h2 h3 h4
  have HRa := Lib.hid cRa
  have HRb := Lib.hid cRb
  have HC := Lib.hid cC
  have HE := Lib.hid hE
  have HVA := Lib.hid hva
  have HVB := Lib.hid hvb
  have h0 : ∀ A B C : Obj, Env (((w.alloc A).alloc B).alloc C) := fun A B C => ((hE.below (bal w A)).below (bal _ B)).below (bal _ C)
  have H0 := Lib.hid h0
  clear cRa cRb cC hE hva hvb hm1 hm2 h0
  go_enter Tryd.func26, Tryd.ntmps26
  go_upto_block 0 with (first
    | (go_at_call 40; refine (HC.out _ _ _ (by omega) (by omega) ha2 hc2).mono ?_; rintro e w3 ⟨c, rfl, hcc, hb3⟩; replace hb3 := bth hb2 hb3; obtain ⟨ha3, hc3, hr3, hw3, hz3⟩ := boxes3 hb3)
    | (go_at_call 31; refine (HRb.out _ (HE.out.below hw1).1).mono ?_; rintro e w2 ⟨rfl, hb2⟩; replace hb2 := bth hb1 hb2; obtain ⟨ha2, hc2, hr2, hw2, hz2⟩ := boxes3 hb2)
    | (go_at_call 31; refine (HRa.out _ (H0.out _ _ _).1).mono ?_; rintro e w1 ⟨rfl, hb1⟩; obtain ⟨ha1, hc1, hr1, hw1, hz1⟩ := boxes3 hb1))
  have hc := count_pre hcc
  obtain ⟨N, hN⟩ : ∃ N, N = begN a.data.toList b.data.toList := ⟨_, rfl⟩
  have hNc : maxK (pOk a.data.toList) c = N := by rw [hN, hc]; rfl
  have HNc := Lib.hid hNc
  have HC' := Lib.hid hc
  have HN := Lib.hid hN
  have hcs : c ≤ min a.size b.size := hcc.1
  clear hNc hc hN hcc
  go_cut [8] (fun v wx => v = .int .i64 (N : Nat) ∧ wx = w3)
  case first =>
    go_wp2_with fail
    go_loop [8] (fun v => ∃ k : Nat, v = .int .i64 k ∧ k ≤ c ∧ Hid (maxK (pOk a.data.toList) k = N)) (fun v => (Go.RowKit.intOf v).toNat)
    case atStart => exact ⟨c, rfl, Nat.le_refl _, HNc.out⟩
    case round =>
      obtain ⟨k, rfl, hkc, hk⟩ := hrel
      have hcpre : k ≤ cpre a.data.toList b.data.toList := by rw [← HC'.out]; exact hkc
      have dn := fun h0 h => beg_down a.data.toList b.data.toList HVA.out HVB.out hcpre h0 h
      have st := fun h => beg_stay a.data.toList b.data.toList HVA.out hcpre h
      rw [← size_eq, ← size_eq] at dn
      rw [← size_eq] at st
      have DN := Lib.hid dn
      have ST := Lib.hid st
      clear dn st hcpre
      by_cases h0 : 0 < k
      · have h0z : (0 : Int) < (k : Int) := by omega
        by_cases ha : k < a.size
        · have cSa : ∀ w1, _ := fun w1 => runeStart_any (a[k]'ha) w1
          have hga : a.data.toList.getD k 0 = a[k]'ha := UInt8.toNat_inj.1 (by_get a k ha)
          cases hca : contB (a[k]'ha) with
          | true =>
            rw [hca] at cSa
            have DA := Lib.hid (DN.out h0 (.inl ⟨ha, by rw [hga]; exact hca⟩))
            have CSa := Lib.hid cSa
            clear cSa hga hca
            go_wp2_with (go_at_call 42; refine (CSa.out _).mono ?_; rintro e w4 ⟨rfl, rfl⟩)
            go_round
            case rel => exact ⟨k - 1, congrArg (Value.int .i64) (by omega), by omega, by rw [← DA.out]; exact hk⟩
            case measure => simp [Go.RowKit.intOf]; omega
          | false =>
            have hst : maxK (pOk a.data.toList) k = k := ST.out (.inr (.inr (by rw [hga]; exact hca)))
            rw [hca] at cSa
            have CSa := Lib.hid cSa
            have HST := Lib.hid hst
            clear cSa hga hca hst
            by_cases hb : k < b.size
            · have cSb : ∀ w1, _ := fun w1 => runeStart_any (b[k]'hb) w1
              have hgb : b.data.toList.getD k 0 = b[k]'hb := UInt8.toNat_inj.1 (by_get b k hb)
              cases hcb : contB (b[k]'hb) with
              | true =>
                rw [hcb] at cSb
                have DB := Lib.hid (DN.out h0 (.inr ⟨hb, by rw [hgb]; exact hcb⟩))
                have CSb := Lib.hid cSb
                clear cSb hgb hcb
                go_wp2_with (first | (go_at_call 42; refine (CSa.out _).mono ?_; rintro e w4 ⟨rfl, rfl⟩) | (go_at_call 42; refine (CSb.out _).mono ?_; rintro e w5 ⟨rfl, rfl⟩))
                go_round
                case rel => exact ⟨k - 1, congrArg (Value.int .i64) (by omega), by omega, by rw [← DB.out]; exact hk⟩
                case measure => simp [Go.RowKit.intOf]; omega
              | false =>
                rw [hcb] at cSb
                have CSb := Lib.hid cSb
                clear cSb hgb hcb
                go_wp2_with (first | (go_at_call 42; refine (CSa.out _).mono ?_; rintro e w4 ⟨rfl, rfl⟩) | (go_at_call 42; refine (CSb.out _).mono ?_; rintro e w5 ⟨rfl, rfl⟩))
                go_meet
                exact ⟨by rw [← HST.out, hk.out], rfl⟩
            · have hbz : decide (k < b.size) = false := decide_eq_false hb
              go_wp2_with (go_at_call 42; refine (CSa.out _).mono ?_; rintro e w4 ⟨rfl, rfl⟩)
              go_meet
              exact ⟨by rw [← HST.out, hk.out], rfl⟩
        · have haz : decide (k < a.size) = false := decide_eq_false ha
          have hst : maxK (pOk a.data.toList) k = k := ST.out (.inr (.inl (by omega)))
          have HST := Lib.hid hst
          clear hst
          by_cases hb : k < b.size
          · have cSb : ∀ w1, _ := fun w1 => runeStart_any (b[k]'hb) w1
            have hgb : b.data.toList.getD k 0 = b[k]'hb := UInt8.toNat_inj.1 (by_get b k hb)
            cases hcb : contB (b[k]'hb) with
            | true =>
              rw [hcb] at cSb
              have DB := Lib.hid (DN.out h0 (.inr ⟨hb, by rw [hgb]; exact hcb⟩))
              have CSb := Lib.hid cSb
              clear cSb hgb hcb
              go_wp2_with (go_at_call 42; refine (CSb.out _).mono ?_; rintro e w5 ⟨rfl, rfl⟩)
              go_round
              case rel => exact ⟨k - 1, congrArg (Value.int .i64) (by omega), by omega, by rw [← DB.out]; exact hk⟩
              case measure => simp [Go.RowKit.intOf]; omega
            | false =>
              rw [hcb] at cSb
              have CSb := Lib.hid cSb
              clear cSb hgb hcb
              go_wp2_with (go_at_call 42; refine (CSb.out _).mono ?_; rintro e w5 ⟨rfl, rfl⟩)
              go_meet
              exact ⟨by rw [← HST.out, hk.out], rfl⟩
          · have hbz : decide (k < b.size) = false := decide_eq_false hb
            go_wp2
            go_meet
            exact ⟨by rw [← HST.out, hk.out], rfl⟩
      · have hk0 : k = 0 := by omega
        have hst : maxK (pOk a.data.toList) k = k := ST.out (.inl hk0)
        have HST := Lib.hid hst
        clear hst
        have h0z : ¬ (0 : Int) < (k : Int) := by omega
        go_wp2
        go_meet
        have hN0 : N = 0 := by rw [← hk.out, HST.out]; exact hk0
        exact ⟨by rw [hN0]; rfl, rfl⟩
  case rest =>
    obtain ⟨rfl, rfl⟩ := hcut
    have hNc : N ≤ c := by rw [← HNc.out]; exact maxK_le _ _
    have hNm : N ≤ min a.size b.size := Nat.le_trans hNc hcs
    have cD : ∀ ga gb w', ga < w'.heap.size → gb < w'.heap.size → w'.cell? ⟨ga, 0, none⟩ = some (.string a) → w'.cell? ⟨gb, 0, none⟩ = some (.string b) → Calls Tryd.prog 40 #[.int .i64 (min (a.size : Int) (b.size : Int) - (N : Int)), .func (.func 43) #[] #[.pointer (some ⟨ga, 0, none⟩), .pointer (some ⟨gb, 0, none⟩)]] w' (CountPost (fun k => by_ a.data.toList (a.size - 1 - k)) (fun k => by_ b.data.toList (b.size - 1 - k)) (min a.size b.size - N) w') := fun ga gb w' h1 h2 h3 h4 => by
      rw [show min (a.size : Int) (b.size : Int) - (N : Int) = ((min a.size b.size - N : Nat) : Int) by omega]
      exact edCount2_any a b ga gb (min a.size b.size - N) w' (by omega) (by omega) hsa hsb h1 h2 h3 h4
    have HD := Lib.hid cD
    have hNz : (N : Int) ≤ min (a.size : Int) (b.size : Int) := by omega
    clear cD hNc
    go_upto_block 2 with (go_at_call 40; refine (HD.out _ _ _ (by omega) (by omega) ha3 hc3).mono ?_; rintro e w4 ⟨d, rfl, hdd, hb4⟩; replace hb4 := bth hb3 hb4; obtain ⟨ha4, hc4, hr4, hw4, hz4⟩ := boxes3 hb4)
    have hd := count_suf hNm hdd
    obtain ⟨K, hK⟩ : ∃ K, K = finR a.data.toList b.data.toList := ⟨_, rfl⟩
    have hKd : maxK (qOk (a.data.toList.drop N)) d = K := by rw [hK, hd]; unfold finR finN; rw [← HN.out]
    have HKd := Lib.hid hKd
    have HK := Lib.hid hK
    have hds : d ≤ min a.size b.size - N := hdd.1
    have HVN : Hid (validD (a.data.toList.drop N) = true) := by
      show _ = _
      rw [HN.out]
      exact drop_beg _ _ HVA.out
    clear hKd hK hd hdd
    go_cut [9] (fun v wx => v = .int .i64 (K : Nat) ∧ wx = w4)
    case first =>
      go_wp2_with fail
      go_loop [9] (fun v => ∃ k : Nat, v = .int .i64 k ∧ k ≤ d ∧ Hid (maxK (qOk (a.data.toList.drop N)) k = K)) (fun v => (Go.RowKit.intOf v).toNat)
      case atStart => exact ⟨d, rfl, Nat.le_refl _, HKd.out⟩
      case round =>
        obtain ⟨k, rfl, hkd, hk⟩ := hrel
        have dn := fun h0 h => fin_down a.data.toList N HVN.out (k := k) (by rw [← size_eq]; omega) (by rw [← size_eq]; omega) h0 h
        have st := fun h => fin_stay a.data.toList N HVN.out (k := k) (by rw [← size_eq]; omega) (by rw [← size_eq]; omega) h
        rw [← size_eq] at dn st
        have DN := Lib.hid dn
        have ST := Lib.hid st
        clear dn st
        by_cases h0 : 0 < k
        · have h0z : (0 : Int) < (k : Int) := by omega
          have hlt : a.size - k < a.size := by omega
          have hsub : (a.size : Int) - (k : Int) = ((a.size - k : Nat) : Int) := by omega
          have cS : ∀ w1, _ := fun w1 => runeStart_any (a[a.size - k]'hlt) w1
          have hga : a.data.toList.getD (a.size - k) 0 = a[a.size - k]'hlt := UInt8.toNat_inj.1 (by_get a _ hlt)
          cases hca : contB (a[a.size - k]'hlt) with
          | true =>
            rw [hca] at cS
            have DA := Lib.hid (DN.out h0 (by rw [hga]; exact hca))
            have CS := Lib.hid cS
            clear cS hga hca
            go_wp2_with (go_at_call 42; refine (CS.out _).mono ?_; rintro e w5 ⟨rfl, rfl⟩)
            go_round
            case rel => exact ⟨k - 1, congrArg (Value.int .i64) (by omega), by omega, by rw [← DA.out]; exact hk⟩
            case measure => simp [Go.RowKit.intOf]; omega
          | false =>
            rw [hca] at cS
            have HST := Lib.hid (ST.out (.inr (by rw [hga]; exact hca)))
            have CS := Lib.hid cS
            clear cS hga hca
            go_wp2_with (go_at_call 42; refine (CS.out _).mono ?_; rintro e w5 ⟨rfl, rfl⟩)
            go_meet
            exact ⟨by rw [← HST.out, hk.out], rfl⟩
        · have hk0 : k = 0 := by omega
          have HST := Lib.hid (ST.out (.inl hk0))
          have h0z : ¬ (0 : Int) < (k : Int) := by omega
          go_wp2
          go_meet
          have hN0 : K = 0 := by rw [← hk.out, HST.out]; exact hk0
          exact ⟨by rw [hN0]; rfl, rfl⟩
    case rest =>
      obtain ⟨rfl, rfl⟩ := hcut
      have hKd' : K ≤ d := by rw [← HKd.out]; exact maxK_le _ _
      have hKa : (K : Int) ≤ (a.size : Int) := by omega
      have hKb : (N : Int) ≤ (b.size : Int) - (K : Int) := by omega
      obtain ⟨⟨p1, q1, e1⟩, hp1⟩ : ∃ z, z = placeP a.data.toList (N : Nat) := ⟨_, rfl⟩
      obtain ⟨⟨p2, q2, e2⟩, hp2⟩ : ∃ z, z = placeP a.data.toList ((a.size - K : Nat) : Int) := ⟨_, rfl⟩
      have hV : betV a b = ⟨(p1 : Nat), (q1 : Nat), (p2 : Nat), (q2 : Nat), b.extract N (b.size - K)⟩ := by
        unfold betV
        rw [← HN.out, ← HK.out, ← size_eq, ← hp1, ← hp2]
      have cN := fun w' hT => linNew_right a w' (by omega) HVA.out hT
      have cP1 : ∀ b0 w', Ix w' b0 a → Env w' → Calls Tryd.prog 20 #[.pointer (some ⟨b0, 0, none⟩), .int .i64 (N : Nat)] w' (PlcPost (p1, q1, e1) w') := fun b0 w' hx he => by
        rw [hp1]
        exact linPlace_any b0 a _ w' (by omega) HVA.out hx he
      have cP2 : ∀ b0 w', Ix w' b0 a → Env w' → Calls Tryd.prog 20 #[.pointer (some ⟨b0, 0, none⟩), .int .i64 ((a.size : Int) - (K : Int))] w' (PlcPost (p2, q2, e2) w') := fun b0 w' hx he => by
        rw [hp2, show (a.size : Int) - (K : Int) = ((a.size - K : Nat) : Int) by omega]
        exact linPlace_any b0 a _ w' (by omega) HVA.out hx he
      have HCN := Lib.hid cN
      have HP1 := Lib.hid cP1
      have HP2 := Lib.hid cP2
      have HV := Lib.hid hV
      clear cN cP1 cP2 hp1 hp2 hV hKd' hds hNm hcs
      go_upto_region 14 with (first
        | (go_at_call 20; (with_reducible refine (HP2.out _ _ hx6 he6).mono ?_); rintro e w7 ⟨rfl, hb7⟩; obtain ⟨hp0, hp1, _⟩ := box2 (bth hb7 (bal w7 (.cells #[.int .i64 (p2 : Nat), .int .i64 (q2 : Nat)] 23))); have hb8 := bth (bth hb6 hb7) (bal w7 (.cells #[.int .i64 (p2 : Nat), .int .i64 (q2 : Nat)] 23)); obtain ⟨ha8, hc8, hr8, hw8, hz8⟩ := boxes3 hb8; have hm := heap_alloc_new w7 (.cells #[.int .i64 (p2 : Nat), .int .i64 (q2 : Nat)] 23); obtain ⟨hq0, hq1, _, _⟩ := two_cf hm; clear hm hb8 hz8 ha8; obtain ⟨hfc, hff⟩ := five_cf hr8; have hk0 := hfc 0 _ rfl; have hk1 := hfc 1 _ rfl; have hk2 := hfc 2 _ rfl; have hk3 := hfc 3 _ rfl; have hk4 := hfc 4 _ rfl; have hf0 := hff 0; have hf1 := hff 1; have hf2 := hff 2; have hf3 := hff 3; have hf4 := hff 4; clear hfc hff)
        | (go_at_call 20; (with_reducible refine (HP1.out _ _ hx5 he5).mono ?_); rintro e w6 ⟨rfl, hb6⟩; have hx6 := (hx5.below hb6).below (bal w6 (.cells #[.int .i64 (p1 : Nat), .int .i64 (q1 : Nat)] 23)); have he6 := (he5.below hb6).below (bal w6 (.cells #[.int .i64 (p1 : Nat), .int .i64 (q1 : Nat)] 23)); replace hb6 := bth (bth hb5 hb6) (bal w6 (.cells #[.int .i64 (p1 : Nat), .int .i64 (q1 : Nat)] 23)); obtain ⟨ha6, hc6, hr6, hw6, hz6⟩ := boxes3 hb6)
        | (go_at_call 14; refine (HCN.out _ (HE.out.below hw4).1).mono ?_; rintro e w5 ⟨b0, rfl, hx5, hge, hb5⟩; have he5 := (HE.out.below hw4).below hb5; replace hb5 := bth hb4 hb5; obtain ⟨ha5, hc5, hr5, hw5, hz5⟩ := boxes3 hb5))
      generalize w7.alloc (.cells #[.int .i64 (p2 : Nat), .int .i64 (q2 : Nat)] 23) = W at hp0 hp1 hc8 hr8 hw8 hq0 hq1 hk0 hk1 hk2 hk3 hk4 hf0 hf1 hf2 hf3 hf4 ⊢
      go_region
      go_wp2
      (try simp only [Exit.inBlock, Exit.then])
      rw [HV.out]
      obtain ⟨h5, _⟩ := five_cf (set5d (g := w.heap.size + 1 + 1) (u0 := .int .i64 (p1 : Nat)) (u1 := .int .i64 (q1 : Nat)) (u2 := .int .i64 (p2 : Nat)) (u3 := .int .i64 (q2 : Nat)) (u4 := .string (b.extract N (b.size - K))) hr8)
      have k0 := h5 0 _ rfl
      have k1 := h5 1 _ rfl
      have k2 := h5 2 _ rfl
      have k3 := h5 3 _ rfl
      have k4 := h5 4 _ rfl
      have hbb := (below_set5 (g := w.heap.size + 1 + 1) hw8 (by omega) (.int .i64 (p1 : Nat)) (.int .i64 (q1 : Nat)) (.int .i64 (p2 : Nat)) (.int .i64 (q2 : Nat)) (.string (b.extract N (b.size - K)))).drew
      exact ret_edit (v := ⟨(p1 : Nat), (q1 : Nat), (p2 : Nat), (q2 : Nat), b.extract N (b.size - K)⟩) rfl rfl rfl k0 k1 k2 k3 k4 rfl hbb

set_option maxRecDepth 100000 in
set_option maxHeartbeats 1000000 in
theorem edBetween_not (a b : ByteArray) (w : World) (hsa : a.size ≤ 4194304) (hsb : b.size ≤ 4194304) (hv : ¬ (validD a.data.toList = true ∧ validD b.data.toList = true)) (hE : Env w) :
    Calls Tryd.prog 26 #[.string a, .string b] w (EdPost zeroV 11 w) := by
  have cRa := fun w' hT => right_any a w' (by omega) hT
  have cRb := fun w' hT => right_any b w' (by omega) hT
  have h0 : ∀ A B C : Obj, Env (((w.alloc A).alloc B).alloc C) := fun A B C => ((hE.below (bal w A)).below (bal _ B)).below (bal _ C)
  have H0 := Lib.hid h0
  have HE := Lib.hid hE
  cases hva : validD a.data.toList with
  | true =>
    have hvb : validD b.data.toList = false := by
      cases h : validD b.data.toList with
      | true => exact absurd ⟨hva, h⟩ hv
      | false => rfl
    rw [hva] at cRa
    rw [hvb] at cRb
    have HRa := Lib.hid cRa
    have HRb := Lib.hid cRb
    clear cRa cRb hE h0 hva hvb hv
    go_enter Tryd.func26, Tryd.ntmps26
    go_wp2_with (first
      | (go_at_call 31; refine (HRb.out _ (HE.out.below hw1).1).mono ?_; rintro e w2 ⟨rfl, hb2⟩; replace hb2 := bth hb1 hb2; obtain ⟨ha2, hc2, hr2, hw2, hz2⟩ := boxes3 hb2; obtain ⟨hfc, hff⟩ := five_cf hr2; have hk0 := hfc 0 _ rfl; have hk1 := hfc 1 _ rfl; have hk2 := hfc 2 _ rfl; have hk3 := hfc 3 _ rfl; have hk4 := hfc 4 _ rfl; have hf0 := hff 0; have hf1 := hff 1; have hf2 := hff 2; have hf3 := hff 3; have hf4 := hff 4; clear hfc hff)
      | (go_at_call 31; refine (HRa.out _ (H0.out _ _ _).1).mono ?_; rintro e w1 ⟨rfl, hb1⟩; obtain ⟨ha1, hc1, hr1, hw1, hz1⟩ := boxes3 hb1))
    (try simp only [Exit.inBlock, Exit.then])
    obtain ⟨h5, _⟩ := five_cf (set5 (u0 := .int .i64 0) (u1 := .int .i64 0) (u2 := .int .i64 0) (u3 := .int .i64 0) (u4 := .string ⟨#[]⟩) hr2)
    exact ret_edit rfl rfl rfl (h5 0 _ rfl) (h5 1 _ rfl) (h5 2 _ rfl) (h5 3 _ rfl) (h5 4 _ rfl) rfl (below_set5 hw2 (by omega) _ _ _ _ _)
  | false =>
    rw [hva] at cRa
    have HRa := Lib.hid cRa
    clear cRa cRb hE h0 hva hv
    go_enter Tryd.func26, Tryd.ntmps26
    go_wp2_with (go_at_call 31; refine (HRa.out _ (H0.out _ _ _).1).mono ?_; rintro e w2 ⟨rfl, hb2⟩; obtain ⟨ha2, hc2, hr2, hw2, hz2⟩ := boxes3 hb2; obtain ⟨hfc, hff⟩ := five_cf hr2; have hk0 := hfc 0 _ rfl; have hk1 := hfc 1 _ rfl; have hk2 := hfc 2 _ rfl; have hk3 := hfc 3 _ rfl; have hk4 := hfc 4 _ rfl; have hf0 := hff 0; have hf1 := hff 1; have hf2 := hff 2; have hf3 := hff 3; have hf4 := hff 4; clear hfc hff)
    (try simp only [Exit.inBlock, Exit.then])
    obtain ⟨h5, _⟩ := five_cf (set5 (u0 := .int .i64 0) (u1 := .int .i64 0) (u2 := .int .i64 0) (u3 := .int .i64 0) (u4 := .string ⟨#[]⟩) hr2)
    exact ret_edit rfl rfl rfl (h5 0 _ rfl) (h5 1 _ rfl) (h5 2 _ rfl) (h5 3 _ rfl) (h5 4 _ rfl) rfl (below_set5 hw2 (by omega) _ _ _ _ _)
end Go.Proofs.YtadkjeefiacdbaaDoor
