/-
  THE WALKS of package docs: Get, All, Size. Conditions: stated at each.
-/
import Derived.Test.YtcadfaecoldcpaaDoorDo4
import Derived.Test.YtcadfaecoldcpaaDoorDoK
set_option linter.unusedVariables false
set_option linter.unusedSimpArgs false
namespace Go.Proofs.YtcadfaecoldcpaaDoor
open Go.RowKit Go.Lib Go.Shelf Go.Maps

theorem boxes1hD {w w' : World} {C : Array Value} {t : TypeId} (h : Below (w.alloc (.cells C t)).heap.size (w.alloc (.cells C t)) w') :
    w'.heap[w.heap.size]? = some (.cells C t) ∧ Below w.heap.size w w' ∧ w.heap.size + 1 ≤ w'.heap.size := by
  have hs := h.size
  rw [World.size_alloc] at hs
  exact ⟨(h.block w.heap.size (by simp)).trans (heap_alloc_new _ _), bth (bal w _) h, hs⟩
theorem load_doc (w : World) (b : Nat) (v0 v1 v2 : Value) (h0 : w.cell? ⟨b, 0, none⟩ = some v0) (h1 : w.cell? ⟨b, 1, none⟩ = some v1) (h2 : w.cell? ⟨b, 2, none⟩ = some v2) : (loadVar 24 ⟨b, 0, none⟩).run Tryd.prog w = .ok (.agg #[v0, v1, v2]) w := by
  go_simp
/-- A document, and whether there is one. -/
def GetPost (d : DocL) (is : Bool) (w : World) (e : Ending) (w' : World) : Prop := e = .returned (.tuple #[.agg #[.string ⟨d.n.toArray⟩, .int .i64 d.v, .string ⟨d.t.toArray⟩], .bool is]) ∧ Below w.heap.size w w'
set_option maxRecDepth 100000 in
theorem ret_doc {fn : Func} {p u : Tmp} {a : Act} {w w' : World} {d : DocL} {is : Bool} (h : fn.results = #[.cell p 24, .tmp u]) (hd : a.defers = []) {g : Nat} (hp : a.tmps.getD p undef = .pointer (some ⟨g, 0, none⟩))
    (h0 : w'.cell? ⟨g, 0, none⟩ = some (.string ⟨d.n.toArray⟩)) (h1 : w'.cell? ⟨g, 1, none⟩ = some (.int .i64 d.v)) (h2 : w'.cell? ⟨g, 2, none⟩ = some (.string ⟨d.t.toArray⟩)) (hu : a.tmps.getD u undef = .bool is) (hb : Below w.heap.size w w') :
    bodyPost Tryd.prog fn (GetPost d is w) .ret a w' := by
  refine bodyPost_ret (v := .tuple #[.agg #[.string ⟨d.n.toArray⟩, .int .i64 d.v, .string ⟨d.t.toArray⟩], .bool is]) ?_ hd ⟨rfl, hb⟩
  rw [results_cell_tmp h, hp, hu, show (asAddr (.pointer (some ⟨g, 0, none⟩))).run Tryd.prog w' = .ok ⟨g, 0, none⟩ w' from rfl]
  show ((loadVar 24 ⟨g, 0, none⟩).run Tryd.prog w').andThen _ = _
  rw [load_doc w' g _ _ _ h0 h1 h2]
  rfl
theorem three_cf {w : World} {g : Nat} {v0 v1 v2 : Value} {t : TypeId} (h : w.heap[g]? = some (.cells #[v0, v1, v2] t)) : (∀ k v, #[v0, v1, v2][k]? = some v → w.cell? ⟨g, k, none⟩ = some v) ∧ (∀ k, w.frozen? ⟨g, k, none⟩ = false) := by
  refine ⟨fun k v hk => by rw [cell_of_row _ _ k _ _ _ h]; exact hk, fun k => ?_⟩
  unfold World.frozen?
  simp only [h]
  simp
theorem set3 {w : World} {g : Nat} {v0 v1 v2 u0 u1 u2 : Value} {t : TypeId} (h : w.heap[g]? = some (.cells #[v0, v1, v2] t)) :
    (((w.setCell ⟨g, 0, none⟩ u0).setCell ⟨g, 1, none⟩ u1).setCell ⟨g, 2, none⟩ u2).heap[g]? = some (.cells #[u0, u1, u2] t) := set_get (set_get (set_get h))

set_option maxRecDepth 100000 in
set_option maxHeartbeats 1000000 in
theorem docsGet_any (b mb : Nat) (L : List DocL) (n : ByteArray) (w : World) (h : St w b mb L) (hn : n.size ≤ 4194304) :
    Calls Tryd.prog 17 #[.pointer (some ⟨b, 0, none⟩), .string n] w (GetPost (getL L n.data.toList) (hasL L n.data.toList) w) := by
  have hS1 := h.below (bal w (.cells #[.string ⟨#[]⟩, .int .i64 0, .string ⟨#[]⟩] 24))
  have hlk := map_look hS1.map n (by omega)
  obtain ⟨⟨gn, gv, gt⟩, hg⟩ : ∃ g, g = getL L n.data.toList := ⟨_, rfl⟩
  rw [← hg] at hlk ⊢
  have hlk' : (Instr.lookup 50 (.map (some mb)) (.string n) true).run Tryd.prog (w.alloc (.cells #[.string ⟨#[]⟩, .int .i64 0, .string ⟨#[]⟩] 24)) = .ok (.tuple #[.agg #[.string ⟨gn.toArray⟩, .int .i64 gv, .string ⟨gt.toArray⟩], .bool (hasL L n.data.toList)]) (w.alloc (.cells #[.string ⟨#[]⟩, .int .i64 0, .string ⟨#[]⟩] 24)) := hlk
  have hc := hS1.cell
  generalize hasL L n.data.toList = is at hlk' ⊢
  have hb2 := bth (bal w (.cells #[.string ⟨#[]⟩, .int .i64 0, .string ⟨#[]⟩] 24)) (bal _ (.cells #[.string ⟨gn.toArray⟩, .int .i64 gv, .string ⟨gt.toArray⟩] 24))
  obtain ⟨hr8, hw8, _⟩ := boxes1hD (w := w) (bal (w.alloc (.cells #[.string ⟨#[]⟩, .int .i64 0, .string ⟨#[]⟩] 24)) (.cells #[.string ⟨gn.toArray⟩, .int .i64 gv, .string ⟨gt.toArray⟩] 24))
  obtain ⟨hfc, hff⟩ := three_cf hr8
  have hk0 := hfc 0 _ rfl
  have hk1 := hfc 1 _ rfl
  have hk2 := hfc 2 _ rfl
  have hf0 := hff 0
  have hf1 := hff 1
  have hf2 := hff 2
  clear hlk hg hfc hff h hS1
  go_enter Tryd.func17, Tryd.ntmps17
  go_wp2
  (try simp only [Exit.inBlock, Exit.then])
  obtain ⟨hr9, hw9, _⟩ := boxes1hD (w := w) (bal (w.alloc (.cells #[.string ⟨gn.toArray⟩, .int .i64 gv, .string ⟨gt.toArray⟩] 24)) (.cells #[.string ⟨gn.toArray⟩, .int .i64 gv, .string ⟨gt.toArray⟩] 24))
  obtain ⟨h3, _⟩ := three_cf hr9
  exact ret_doc (d := ⟨gn, gv, gt⟩) rfl rfl rfl (h3 0 _ rfl) (h3 1 _ rfl) (h3 2 _ rfl) rfl hw9
end Go.Proofs.YtcadfaecoldcpaaDoor

/-
  THE WALKS of package docs: All, Size. Conditions: stated at each.
-/
set_option linter.unusedVariables false
set_option linter.unusedSimpArgs false
namespace Go.Proofs.YtcadfaecoldcpaaDoor
open Go.RowKit Go.Lib Go.Shelf Go.Maps

theorem rise_inj {L : List DocL} (h : RiseL L) {a b : DocL} (ha : a ∈ L) (hb : b ∈ L) (e : a.n = b.n) : a = b := by
  induction L with
  | nil => cases ha
  | cons x r ih =>
    obtain ⟨h1, h2⟩ := List.pairwise_cons.1 h
    rcases List.mem_cons.1 ha with ea | ka
    · rcases List.mem_cons.1 hb with eb | kb
      · exact ea.trans eb.symm
      · exact absurd (ea ▸ e) (bb_ne (h1 b kb))
    · rcases List.mem_cons.1 hb with eb | kb
      · exact absurd (eb ▸ e.symm) (bb_ne (h1 a ka))
      · exact ih h2 ka kb
theorem findL_mem {L : List DocL} (h : RiseL L) {d : DocL} (hd : d ∈ L) : findL L d.n = some d := by
  cases hf : findL L d.n with
  | none =>
    have := findL_has L d.n
    rw [hf, hasL_iff.2 ⟨d, hd, rfl⟩] at this
    cases this
  | some x =>
    obtain ⟨h1, h2⟩ := findL_some hf
    rw [rise_inj h h1 hd h2]
theorem getL_mem {L : List DocL} (h : RiseL L) {d : DocL} (hd : d ∈ L) : getL L d.n = d := getL_some (findL_mem h hd)
/-- A slice of documents. -/
def RdD (w : World) (A : Option Addr) (l : List DocL) : Prop := ∀ i (h : i < l.length), ∃ g o : Nat, A = some ⟨g, o, none⟩ ∧ g < w.heap.size ∧
  w.cell? ⟨g, o + i * 3, none⟩ = some (.string ⟨(l[i]'h).n.toArray⟩) ∧ w.cell? ⟨g, o + i * 3 + 1, none⟩ = some (.int .i64 (l[i]'h).v) ∧ w.cell? ⟨g, o + i * 3 + 2, none⟩ = some (.string ⟨(l[i]'h).t.toArray⟩)
theorem RdD.below {w w' : World} {A : Option Addr} {l : List DocL} (h : RdD w A l) (hb : Below w.heap.size w w') : RdD w' A l := by
  intro i hi
  obtain ⟨g, o, hA, hlt, c0, c1, c2⟩ := h i hi
  have hs := hb.size
  have k : ∀ n, w'.cell? ⟨g, n, none⟩ = w.cell? ⟨g, n, none⟩ := fun n => hb.cell hlt
  exact ⟨g, o, hA, by omega, (k _).trans c0, (k _).trans c1, (k _).trans c2⟩
def docC (d : DocL) : List Value := [.string ⟨d.n.toArray⟩, .int .i64 d.v, .string ⟨d.t.toArray⟩]
def cellsD (l : List DocL) : List Value := l.flatMap docC
theorem cellsD_len (l : List DocL) : (cellsD l).length = l.length * 3 := by
  unfold cellsD
  induction l with
  | nil => rfl
  | cons x r ih =>
    rw [List.flatMap_cons, List.length_append, ih, List.length_cons]
    simp [docC]
    omega
theorem cellsD_app (l r : List DocL) : cellsD (l ++ r) = cellsD l ++ cellsD r := List.flatMap_append ..
theorem cellsD_get : ∀ (l : List DocL) (i : Nat) (h : i < l.length) (j : Nat), j < 3 → (cellsD l)[i * 3 + j]? = (docC l[i])[j]?
  | x :: r, 0, _, j, hj => by
    unfold cellsD
    rw [List.flatMap_cons, List.getElem?_append_left (by simp [docC]; omega)]
    simp
  | x :: r, i + 1, h, j, hj => by
    have ih := cellsD_get r i (by simpa using h) j hj
    unfold cellsD at ih ⊢
    rw [List.flatMap_cons, List.getElem?_append_right (by simp [docC]; omega)]
    have : (i + 1) * 3 + j - (docC x).length = i * 3 + j := by simp [docC]; omega
    rw [this, ih]
    rfl
theorem rdD_of {w : World} {A : Option Addr} {l : List DocL} (h : Rd w 3 A l.length (cellsD l)) (hg : 0 < l.length → ∃ g o : Nat, A = some ⟨g, o, none⟩) : RdD w A l := by
  intro i hi
  obtain ⟨ad, e, hb, hc⟩ := h.at' (by omega)
  obtain ⟨g, o, he⟩ := hg (by omega)
  obtain rfl : ad = ⟨g, o, none⟩ := Option.some.inj (e.symm.trans he)
  have k : ∀ j u, j < 3 → (docC l[i])[j]? = some u → w.cell? ⟨g, o + i * 3 + j, none⟩ = some u := fun j u hj hu => by
    have := hc (i * 3 + j) u ((cellsD_get l i hi j hj).trans hu)
    rw [add_lit, ← Nat.add_assoc] at this
    exact this
  exact ⟨g, o, he, hb, k 0 _ (by decide) rfl, k 1 _ (by decide) rfl, k 2 _ (by decide) rfl⟩
theorem rdD_own {w : World} {base : Nat} {e : TypeId} {A : Option Addr} {c : Nat} {l : List DocL} (h : w.ownsRow base e 3 (.slice A l.length c) l.length (cellsD l)) : RdD w A l := by
  refine rdD_of (Rd.of_own h) fun h0 => ?_
  obtain ⟨g, cap, hv, _, hlt⟩ := h.form h0
  injection hv with hA
  exact ⟨g, 0, hA⟩
theorem eltDocs : EltOk Tryd.prog 31 24 3 40 := EltOk.of Tryd.underlying31 (show _ = some (some (.agg #[.string ⟨#[]⟩, .int .i64 0, .string ⟨#[]⟩]), 3, 40) by kernel_rfl) rfl (by decide)
theorem cell_doc_new (w : World) (d : DocL) (t : TypeId) : ∀ j u, (docC d)[j]? = some u → (w.alloc (.cells #[.string ⟨d.n.toArray⟩, .int .i64 d.v, .string ⟨d.t.toArray⟩] t)).cell? ((⟨w.heap.size, 0, none⟩ : Addr).add j) = some u := by
  intro j u hj
  rw [add_lit, Nat.zero_add, cell_of_row _ _ j _ _ _ (heap_alloc_new _ _)]
  rw [← hj]
  simp [docC]
theorem one_cell_doc (d : DocL) : ∀ u ∈ docC d, u.oneCell' = true := by
  intro u hu
  simp [docC] at hu
  rcases hu with rfl | rfl | rfl <;> rfl

def AllPost (L : List DocL) (w : World) (e : Ending) (w' : World) : Prop := ∃ A c, e = .returned (.slice A L.length c) ∧ RdD w' A L ∧ Below w.heap.size w w'
set_option maxRecDepth 100000 in
set_option maxHeartbeats 1000000 in
theorem docsAll_any (b mb : Nat) (L : List DocL) (w : World) (h : St w b mb L) :
    Calls Tryd.prog 11 #[.pointer (some ⟨b, 0, none⟩)] w (AllPost L w) := by
  have HS := Lib.hid h
  have hc := h.cell
  have hlen := h.len
  have cK := keys_any (some mb) w
  have cS := sorted_any mb L w h.map h.rise h.len
  have HK := Lib.hid cK
  have HSO := Lib.hid cS
  clear cK cS h
  go_enter Tryd.func11, Tryd.ntmps11
  go_wp2_with (first
    | (go_at_call 25; refine HK.out.mono ?_; rintro e w1 ⟨rfl, rfl⟩)
    | (go_at_call 24; refine HSO.out.mono ?_; rintro e w2 ⟨An, cn, rfl, hR2, hb2⟩))
  have hw2 := bth (bal w _) hb2
  have HR2 := Lib.hid hR2
  clear hR2 hb2 HSO HK
  go_loopw [3, 15] (fun a i wr => ∃ (A : Option Addr) (c k : Nat), a = .slice A k c ∧ i = .int .i64 k ∧ k ≤ L.length ∧ Hid (wr.ownsRow w2.heap.size 24 3 (.slice A k c) k (cellsD (L.take k))) ∧ Below w2.heap.size w2 wr) (fun _ i _ => L.length - (RowKit.intOf i).toNat)
  case atStart => exact ⟨none, 0, 0, rfl, rfl, Nat.zero_le _, Lib.hid (World.ownsRow_nil ..), Below.refl _ _⟩
  case round =>
    obtain ⟨A, c, k, rfl, rfl, hk, hown, hbr⟩ := hrel
    by_cases hkl : k < L.length
    · have hkz : (k : Int) < (L.length : Int) := by omega
      have hb := bth hw2 hbr
      have hSr := HS.out.below hb
      have hcr := hSr.cell
      obtain ⟨ad, rfl, had, hnm⟩ := (HR2.out.below hbr).cell (k := k) (by unfold nameB; rw [List.length_map]; exact hkl)
      have hL : (nameB L).getD k ⟨#[]⟩ = ⟨(L[k]).n.toArray⟩ := by
        unfold nameB
        rw [List.getD_eq_getElem?_getD, List.getElem?_map, List.getElem?_eq_getElem hkl]
        rfl
      rw [hL] at hnm
      have hmem : L[k] ∈ L := List.getElem_mem hkl
      have hlk := map_look1 hSr.map ⟨(L[k]).n.toArray⟩ (by rw [Lib.size_eq]; have := (HS.out.ok _ hmem).n; show (L[k]).n.length ≤ _; omega)
      rw [show (⟨(L[k]).n.toArray⟩ : ByteArray).data.toList = (L[k]).n from rfl, getL_mem HS.out.rise hmem] at hlk
      obtain ⟨d, hd⟩ : ∃ d, d = L[k] := ⟨_, rfl⟩
      have ht : L.take (k + 1) = L.take k ++ [d] := by rw [List.take_succ_eq_append_getElem hkl, hd]
      rw [← hd] at hlk hnm
      have hlk' : (Instr.lookup 50 (.map (some mb)) (.string ⟨d.n.toArray⟩) false).run Tryd.prog wr = .ok (.agg #[.string ⟨d.n.toArray⟩, .int .i64 d.v, .string ⟨d.t.toArray⟩]) wr := hlk
      have hnew := cell_doc_new wr d 24
      have hb2s := hbr.size
      have HO := hown
      have HT := Lib.hid ht
      have HN := Lib.hid hnew
      have HBR := Lib.hid hbr
      clear hlk hSr hb hL hmem hd ht hown hnew hbr
      go_wp2_with (at_builtin; refine wpList_app _ eltDocs rfl (.tmp 19) (.tmp 26) rfl w2.heap.size _ k _ rfl (World.ownsRow.alloc HO.out _) ⟨wr.heap.size, 0, none⟩ 1 1 (docC d) rfl rfl HN.out (one_cell_doc d) (by omega) (maxLen_of (by omega)) (by omega) (by simp; omega) ?_; intro g4 c4 w4 hown4 hgr4 hat4 hlt4)
      go_roundw
      case rel =>
        refine ⟨_, c4, k + 1, rfl, by go_num, by omega, ?_, ?_⟩
        · rw [HT.out, cellsD_app]
          exact Lib.hid hown4
        · exact ((HBR.out.alloc hb2s _).grown hgr4 (by simp; omega) fun j hj => (World.ownsRow.lt HO.out j hj).1)
      case measure => simp [RowKit.intOf]; omega
    · obtain rfl : k = L.length := by omega
      rw [List.take_length] at hown
      go_wp2
      go_ret
      exact ⟨A, c, rfl, rdD_own hown.out, bth hw2 hbr⟩
end Go.Proofs.YtcadfaecoldcpaaDoor

/-
  THE WALKS of package docs: Size; no store. Conditions: stated at each.
-/
set_option linter.unusedVariables false
set_option linter.unusedSimpArgs false
namespace Go.Proofs.YtcadfaecoldcpaaDoor
open Go.RowKit Go.Lib Go.Shelf Go.Maps

theorem sizeL_snoc (l : List DocL) (k : Nat) (h : k < l.length) : sizeL (l.take (k + 1)) = sizeL (l.take k) + (l[k]'h).t.length := by
  unfold sizeL
  rw [List.take_succ_eq_append_getElem h, List.map_append, sumL_append]
  simp [sumL]
theorem sizeL_le {l : List DocL} (h : ∀ d ∈ l, DocOk d) : ∀ k, k ≤ l.length → sizeL (l.take k) ≤ k * 16384
  | 0, _ => by simp [sizeL, sumL]
  | k + 1, hk => by
    have ih := sizeL_le h k (by omega)
    rw [sizeL_snoc l k hk, Nat.add_mul]
    have := (h _ (List.getElem_mem hk)).t
    omega

set_option maxRecDepth 100000 in
set_option maxHeartbeats 1000000 in
theorem docsSize_any (b mb : Nat) (L : List DocL) (w : World) (h : St w b mb L) :
    Calls Tryd.prog 18 #[.pointer (some ⟨b, 0, none⟩)] w (NumPost (sizeL L) w) := by
  have HS := Lib.hid h
  have hlen := h.len
  have cA := docsAll_any b mb L w h
  have HA := Lib.hid cA
  clear cA h
  go_enter Tryd.func18, Tryd.ntmps18
  go_wp2_with (go_at_call 11; refine HA.out.mono ?_; rintro e w2 ⟨A, c, rfl, hR2, hw2⟩)
  have HR2 := Lib.hid hR2
  clear hR2 HA
  go_loopw [3, 9] (fun a i wr => ∃ k : Nat, a = .int .i64 (sizeL (L.take k) : Nat) ∧ i = .int .i64 k ∧ k ≤ L.length ∧ Below w.heap.size w wr ∧ Hid (RdD wr A L)) (fun _ i _ => L.length - (RowKit.intOf i).toNat)
  case atStart => exact ⟨0, rfl, rfl, Nat.zero_le _, hw2, HR2⟩
  case round =>
    obtain ⟨k, rfl, rfl, hk, hb, hR⟩ := hrel
    by_cases hkl : k < L.length
    · have hkz : (k : Int) < (L.length : Int) := by omega
      obtain ⟨g, o, hA, hlt, c0, c1, c2⟩ := hR.out k hkl
      subst hA
      have hsn := sizeL_snoc L k hkl
      have hle := sizeL_le HS.out.ok k hk
      have hdt := (HS.out.ok _ (List.getElem_mem hkl)).t
      obtain ⟨⟨dn, dv, dt⟩, hd⟩ : ∃ d, d = L[k] := ⟨_, rfl⟩
      rw [← hd] at c0 c1 c2 hsn hdt
      simp only at c0 c1 c2 hsn hdt
      have hb2 := bth hb (bal wr (.cells #[.string ⟨dn.toArray⟩, .int .i64 dv, .string ⟨dt.toArray⟩] 24))
      have hR2 := hR.out.below (bal wr (.cells #[.string ⟨dn.toArray⟩, .int .i64 dv, .string ⟨dt.toArray⟩] 24))
      obtain ⟨T, hT⟩ : ∃ T : ByteArray, T = ⟨dt.toArray⟩ := ⟨_, rfl⟩
      have hTs : T.size = dt.length := by rw [hT, Lib.size_eq]
      rw [← hTs] at hsn hdt
      rw [← hT] at c2 hb2 hR2
      obtain ⟨M, hM⟩ : ∃ M, M = sizeL (L.take k) := ⟨_, rfl⟩
      rw [← hM] at hsn hle ⊢
      have HSN := Lib.hid hsn
      have HB2 := Lib.hid hb2
      have HR3 := Lib.hid hR2
      clear hd hT hTs hM hsn hb2 hR2
      go_wp2
      go_roundw
      case rel =>
        refine ⟨k + 1, ?_, by go_num, by omega, HB2.out, HR3⟩
        rw [HSN.out]
        go_num
      case measure => simp [RowKit.intOf]; omega
    · obtain rfl : k = L.length := by omega
      rw [List.take_length]
      go_wp2
      go_ret
      exact ⟨rfl, hb⟩

/-- No store: ErrArg. -/
def NoPost (w : World) (e : Ending) (w' : World) : Prop := e = .returned (.int .i64 1) ∧ Below w.heap.size w w'
set_option maxRecDepth 100000 in
theorem openNil_any (n : ByteArray) (v : Int) (t : ByteArray) (w : World) : Calls Tryd.prog 12 #[.pointer none, .agg #[.string n, .int .i64 v, .string t]] w (NoPost w) := by
  go_enter Tryd.func12, Tryd.ntmps12
  go_wp2
  (try simp only [Exit.inBlock, Exit.then])
  go_ret
  exact ⟨rfl, bal w _⟩
set_option maxRecDepth 100000 in
theorem becomeNil_any (n : ByteArray) (v : Int) (g : Value) (w : World) : Calls Tryd.prog 28 #[.pointer none, .string n, .int .i64 v, g] w (NoPost w) := by
  go_enter Tryd.func28, Tryd.ntmps28
  go_wp2
  (try simp only [Exit.inBlock, Exit.then])
  go_ret
  exact ⟨rfl, Below.refl _ _⟩
set_option maxRecDepth 100000 in
theorem changeNil_any (n : ByteArray) (v : Int) (A : Option Addr) (k c : Nat) (w : World) : Calls Tryd.prog 13 #[.pointer none, .string n, .int .i64 v, .slice A k c] w (NoPost w) := by
  go_enter Tryd.func13, Tryd.ntmps13
  go_wp2_with (go_at_call 28; refine (becomeNil_any n v _ _).mono ?_; rintro e w2 ⟨rfl, hb2⟩)
  go_ret
  exact ⟨rfl, bth (bal w _) hb2⟩
set_option maxRecDepth 100000 in
theorem wholeNil_any (n : ByteArray) (v : Int) (s : ByteArray) (w : World) : Calls Tryd.prog 14 #[.pointer none, .string n, .int .i64 v, .string s] w (NoPost w) := by
  go_enter Tryd.func14, Tryd.ntmps14
  go_wp2_with (go_at_call 28; refine (becomeNil_any n v _ _).mono ?_; rintro e w2 ⟨rfl, hb2⟩)
  go_ret
  exact ⟨rfl, bth (bal w _) hb2⟩
set_option maxRecDepth 100000 in
theorem closeNil_any (n : ByteArray) (w : World) : Calls Tryd.prog 15 #[.pointer none, .string n] w (NoPost w) := by
  go_enter Tryd.func15, Tryd.ntmps15
  go_wp2
  (try simp only [Exit.inBlock, Exit.then])
  go_ret
  exact ⟨rfl, Below.refl _ _⟩
set_option maxRecDepth 100000 in
theorem getNil_any (n : ByteArray) (w : World) : Calls Tryd.prog 17 #[.pointer none, .string n] w (GetPost zeroD false w) := by
  obtain ⟨hr9, hw9, _⟩ := boxes1hD (w := w) (Below.refl (w.alloc (.cells #[.string ⟨#[]⟩, .int .i64 0, .string ⟨#[]⟩] 24)).heap.size (w.alloc (.cells #[.string ⟨#[]⟩, .int .i64 0, .string ⟨#[]⟩] 24)))
  obtain ⟨h3, _⟩ := three_cf hr9
  go_enter Tryd.func17, Tryd.ntmps17
  go_wp2
  (try simp only [Exit.inBlock, Exit.then])
  exact ret_doc (d := zeroD) rfl rfl rfl (h3 0 _ rfl) (h3 1 _ rfl) (h3 2 _ rfl) rfl hw9
set_option maxRecDepth 100000 in
theorem allNil_any (w : World) : Calls Tryd.prog 11 #[.pointer none] w (fun e w' => e = .returned (.slice none 0 0) ∧ w' = w) := by
  go_enter Tryd.func11, Tryd.ntmps11
  go_wp2
  (try simp only [Exit.inBlock, Exit.then])
  go_ret
  exact ⟨rfl, rfl⟩
set_option maxRecDepth 100000 in
theorem sizeNil_any (w : World) : Calls Tryd.prog 18 #[.pointer none] w (fun e w' => e = .returned (.int .i64 0) ∧ w' = w) := by
  go_enter Tryd.func18, Tryd.ntmps18
  go_wp2_with (go_at_call 11; refine (allNil_any _).mono ?_; rintro e w2 ⟨rfl, rfl⟩)
  go_loop [3, 9] (fun a i => a = .int .i64 0 ∧ i = .int .i64 0) (fun _ _ => 0)
  case atStart => exact ⟨rfl, rfl⟩
  case round =>
    obtain ⟨rfl, rfl⟩ := hrel
    go_wp2
    go_ret
    exact ⟨rfl, rfl⟩
end Go.Proofs.YtcadfaecoldcpaaDoor

/-
  THE WALKS of the document's answer for layer 7: a store, find, newer, Name. Conditions: stated at each.
-/
set_option linter.unusedVariables false
set_option linter.unusedSimpArgs false
namespace Go.Proofs.YtcadfaecoldcpaaDoor
open Go.RowKit Go.Lib Go.Shelf Go.Maps

/-- The document's store. -/
structure Sm (w : World) (r : Nat) (A : Option Addr) (c : Nat) (L : List DocL) : Prop where
  box : w.heap[r]? = some (.cells #[.slice A L.length c] 33)
  rd : RdD w A L
  cap : L.length ≤ c
theorem Sm.lt {w : World} {r c : Nat} {A : Option Addr} {L : List DocL} (h : Sm w r A c L) : r < w.heap.size := (Array.getElem?_eq_some_iff.1 h.box).1
theorem Sm.cell {w : World} {r c : Nat} {A : Option Addr} {L : List DocL} (h : Sm w r A c L) : w.cell? ⟨r, 0, none⟩ = some (.slice A L.length c) := by
  rw [cell_of_row _ _ 0 _ _ _ h.box]
  rfl
theorem Sm.below {w w' : World} {r c : Nat} {A : Option Addr} {L : List DocL} (h : Sm w r A c L) (hb : Below w.heap.size w w') : Sm w' r A c L :=
  ⟨(hb.block r h.lt).trans h.box, h.rd.below hb, h.cap⟩
/-- Documents are read on, where a block alone has turned that holds none. -/
theorem RdD.kept {w w' : World} {A : Option Addr} {l : List DocL} {row : Option Nat} (h : RdD w A l) (hg : w.grownBy w' row) (hr : ∀ g o, A = some ⟨g, o, none⟩ → 0 < l.length → some g ≠ row) : RdD w' A l := by
  intro i hi
  obtain ⟨g, o, hA, hlt, c0, c1, c2⟩ := h i hi
  have hs := hg.size
  have k : ∀ n, w'.cell? ⟨g, n, none⟩ = w.cell? ⟨g, n, none⟩ := fun n => World.cell?_of_block (hg.block g hlt (hr g o hA (by omega)))
  exact ⟨g, o, hA, by omega, (k _).trans c0, (k _).trans c1, (k _).trans c2⟩
theorem Sm.nr {w : World} {r c : Nat} {A : Option Addr} {L : List DocL} (h : Sm w r A c L) : ∀ g o, A = some ⟨g, o, none⟩ → 0 < L.length → g ≠ r := by
  intro g o hA h0 e
  subst e
  obtain ⟨g', o', hA', _, c0, _⟩ := h.rd 0 h0
  rw [hA] at hA'
  obtain ⟨rfl, rfl⟩ : g = g' ∧ o = o' := by injection hA' with h1; injection h1 with h2 h3; exact ⟨h2, h3⟩
  rw [cell_of_row _ _ _ _ _ _ h.box] at c0
  cases o with
  | zero => simp at c0
  | succ k => simp at c0
theorem Sm.nmap {w : World} {r c mb : Nat} {A : Option Addr} {L M : List DocL} (h : Sm w r A c L) (hm : MapIs w mb M) : (r ≠ mb) ∧ ∀ g o, A = some ⟨g, o, none⟩ → 0 < L.length → g ≠ mb := by
  obtain ⟨es, clock, hb, _⟩ := hm
  constructor
  · intro e
    rw [← e, h.box] at hb
    cases hb
  · intro g o hA h0 e
    obtain ⟨g', o', hA', _, c0, _⟩ := h.rd 0 h0
    rw [hA] at hA'
    obtain ⟨rfl, rfl⟩ : g = g' ∧ o = o' := by injection hA' with h1; injection h1 with h2 h3; exact ⟨h2, h3⟩
    subst e
    unfold World.cell? at c0
    simp only [hb] at c0
    cases c0
theorem Sm.nst {w : World} {r c b mb : Nat} {A : Option Addr} {L M : List DocL} (h : Sm w r A c L) (hs : St w b mb M) : r ≠ b := by
  intro e
  have := h.box
  rw [e, hs.box] at this
  simp at this
theorem Sm.kept {w w' : World} {r c b mb : Nat} {A : Option Addr} {L M : List DocL} (h : Sm w r A c L) (hs : MapIs w mb M) (hg : w.grownBy w' (some mb)) : Sm w' r A c L :=
  ⟨(hg.block r h.lt (fun e => (h.nmap hs).1 (Option.some.inj e))).trans h.box, h.rd.kept hg fun g o hA h0 e => (h.nmap hs).2 g o hA h0 (Option.some.inj e), h.cap⟩
theorem St.kept {w w' : World} {r c b mb : Nat} {A : Option Addr} {L M : List DocL} (hs : St w b mb L) (h : Sm w r A c M) (hg : w.grownBy w' (some r)) : St w' b mb L :=
  ⟨(hg.block b hs.lt (fun e => h.nst hs (Option.some.inj e).symm)).trans hs.box, hs.map.kept hg (fun e => (h.nmap hs.map).1 (Option.some.inj e).symm), hs.rise, hs.len, hs.ok⟩

def findX (L : List DocL) (n : List UInt8) : Int := match L.findIdx? (fun d => d.n == n) with | some k => (k : Int) | none => -1
theorem findX_none {L : List DocL} {n : List UInt8} (h : ∀ k (hk : k < L.length), (L[k]).n ≠ n) : findX L n = -1 := by
  unfold findX
  rw [List.findIdx?_eq_none_iff.2 fun d hd => by
    obtain ⟨k, hk, rfl⟩ := List.mem_iff_getElem.1 hd
    simpa using h k hk]
theorem findX_some {L : List DocL} {n : List UInt8} {k : Nat} (hk : k < L.length) (h : (L[k]).n = n) (hlt : ∀ j (hj : j < L.length), j < k → (L[j]).n ≠ n) : findX L n = k := by
  unfold findX
  rw [List.findIdx?_eq_some_iff_getElem.2 ⟨hk, by simpa using h, fun j hj => by simpa using hlt j (by omega) hj⟩]
theorem findX_has {L : List DocL} {n : List UInt8} (h : hasL L n = true) : ∃ k, ∃ hk : k < L.length, findX L n = k ∧ (L[k]).n = n ∧ findL L n = some L[k] := by
  cases hf : L.findIdx? (fun d => d.n == n) with
  | none =>
    rw [List.findIdx?_eq_none_iff] at hf
    obtain ⟨d, hd, he⟩ := hasL_iff.1 h
    have := hf d hd
    rw [he] at this
    simp at this
  | some k =>
    obtain ⟨hk, h1, h2⟩ := List.findIdx?_eq_some_iff_getElem.1 hf
    refine ⟨k, hk, by unfold findX; rw [hf], by simpa using h1, ?_⟩
    unfold findL
    rw [List.find?_eq_some_iff_getElem]
    exact ⟨h1, k, hk, rfl, fun j hj => by have := h2 j hj; simpa using this⟩
theorem findX_not {L : List DocL} {n : List UInt8} (h : hasL L n = false) : findX L n = -1 := findX_none fun k hk e => by
  rw [hasL_iff.2 ⟨L[k], List.getElem_mem hk, e⟩] at h
  cases h

set_option maxRecDepth 100000 in
set_option maxHeartbeats 1000000 in
theorem refFind_any (r c : Nat) (A : Option Addr) (L : List DocL) (n : ByteArray) (w : World) (h : Sm w r A c L) (hl : L.length ≤ 1000) :
    Calls Tryd.prog 34 #[.pointer (some ⟨r, 0, none⟩), .string n] w (fun e w' => e = .returned (.int .i64 (findX L n.data.toList)) ∧ w' = w) := by
  have HS := Lib.hid h
  have hc := h.cell
  clear h
  go_enter Tryd.func34, Tryd.ntmps34
  go_wp2
  go_loop [5] (fun i => ∃ k : Nat, i = .int .i64 k ∧ k ≤ L.length ∧ Hid (∀ j (hj : j < L.length), j < k → (L[j]).n ≠ n.data.toList)) (fun i => L.length - (RowKit.intOf i).toNat)
  case atStart => exact ⟨0, rfl, Nat.zero_le _, Lib.hid fun j _ hj => absurd hj (by omega)⟩
  case round =>
    obtain ⟨k, rfl, hk, hlt⟩ := hrel
    by_cases hkl : k < L.length
    · have hkz : (k : Int) < (L.length : Int) := by omega
      obtain ⟨g, o, hA, hg, c0, _, _⟩ := HS.out.rd k hkl
      subst hA
      by_cases he : (L[k]).n = n.data.toList
      · have hx := findX_some hkl he hlt.out
        have hq : ((L[k]).n == n.toList) = true := by
          rw [beq_iff_eq, ByteArray.toList_eq, ← he]
        have HX := Lib.hid hx
        clear hx he
        go_wp2
        go_ret
        exact ⟨by rw [HX.out]; rfl, rfl⟩
      · have hq : ((L[k]).n == n.toList) = false := by
          rw [beq_eq_false_iff_ne, ByteArray.toList_eq]
          exact he
        have HE := Lib.hid he
        clear he
        go_wp2
        go_roundw
        case rel => exact ⟨k + 1, by go_num, by omega, Lib.hid fun j hj hjk => if e : j = k then by subst e; exact HE.out else hlt.out j hj (by omega)⟩
        case measure => simp [RowKit.intOf]; omega
    · have hx := findX_none fun j hj => hlt.out j hj (by omega)
      have HX := Lib.hid hx
      clear hx
      go_wp2
      go_ret
      exact ⟨by rw [HX.out]; rfl, rfl⟩

/-- A place, and the error. -/
def newX (L : List DocL) (n : List UInt8) (v : Int) : Int × Nat :=
  match findL L n with
  | none => (0, 72)
  | some d => if v ≤ d.v then (0, 71) else (findX L n, 0)
set_option maxRecDepth 100000 in
set_option maxHeartbeats 1000000 in
theorem refNewer_any (r c : Nat) (A : Option Addr) (L : List DocL) (n : ByteArray) (v : Int) (w : World) (h : Sm w r A c L) (hl : L.length ≤ 1000) :
    Calls Tryd.prog 35 #[.pointer (some ⟨r, 0, none⟩), .string n, .int .i64 v] w (fun e w' => e = .returned (.tuple #[.int .i64 (newX L n.data.toList v).1, .int .i64 ((newX L n.data.toList v).2 : Nat)]) ∧ w' = w) := by
  have HS := Lib.hid h
  have hc := h.cell
  have cF := refFind_any r c A L n w h hl
  cases hh : hasL L n.data.toList with
  | false =>
    rw [findX_not hh] at cF
    have e : newX L n.data.toList v = (0, 72) := by
      unfold newX
      have := findL_has L n.data.toList
      rw [hh] at this
      cases hf : findL L n.data.toList with
      | none => rfl
      | some d => rw [hf] at this; cases this
    rw [e]
    clear hh e h
    go_enter Tryd.func35, Tryd.ntmps35
    go_wp2_with (go_at_call 34; refine cF.mono ?_; rintro e w2 ⟨rfl, rfl⟩)
    go_ret2
    exact ⟨rfl, rfl⟩
  | true =>
    obtain ⟨k, hk, hx, hn, hf⟩ := findX_has hh
    rw [hx] at cF
    obtain ⟨g, o, hA, hg, c0, c1, _⟩ := h.rd k hk
    subst hA
    have e : newX L n.data.toList v = if v ≤ (L[k]).v then (0, 71) else ((k : Int), 0) := by
      unfold newX
      rw [hf, hx]
    rw [e]
    generalize (L[k]).v = u at c1 ⊢
    by_cases hv : v ≤ u
    · rw [if_pos hv]
      clear hh e h hx hn hf
      go_enter Tryd.func35, Tryd.ntmps35
      go_wp2_with (go_at_call 34; refine cF.mono ?_; rintro e w2 ⟨rfl, rfl⟩)
      go_ret2
      exact ⟨rfl, rfl⟩
    · rw [if_neg hv]
      have hvz : decide (v ≤ u) = false := decide_eq_false hv
      clear hh e h hx hn hf hv
      go_enter Tryd.func35, Tryd.ntmps35
      go_wp2_with (go_at_call 34; refine cF.mono ?_; rintro e w2 ⟨rfl, rfl⟩)
      go_ret2
      exact ⟨rfl, rfl⟩

set_option maxRecDepth 100000 in
theorem refName_any (s : ByteArray) (w : World) (hs : s.size ≤ 16777216) :
    Calls Tryd.prog 32 #[.string s] w (BoolPost (decide (namedL s.data.toList)) w) := by
  have cR := refRight_any s w hs
  have hl := Lib.size_eq s
  have hN : decide (namedL s.data.toList) = (validD s.data.toList && decide ((1 : Int) ≤ (s.size : Int)) && decide ((s.size : Int) ≤ 40)) := by
    rw [Bool.eq_iff_iff]
    simp only [decide_eq_true_iff, Bool.and_eq_true]
    constructor
    · rintro ⟨a, b, c⟩
      exact ⟨⟨a, by omega⟩, by omega⟩
    · rintro ⟨⟨a, b⟩, c⟩
      exact ⟨a, by omega, by omega⟩
  rw [hN]
  clear hN hl
  generalize validD s.data.toList = b at cR ⊢
  cases b
  · go_enter Tryd.func32, Tryd.ntmps32
    go_wp2_with (go_at_call 33; refine cR.mono ?_; rintro e w1 ⟨rfl, hb1⟩)
    go_ret
    exact ⟨rfl, hb1⟩
  · by_cases h1 : (1 : Int) ≤ (s.size : Int)
    · by_cases h2 : (s.size : Int) ≤ 40
      · rw [decide_eq_true h1, decide_eq_true h2]
        go_enter Tryd.func32, Tryd.ntmps32
        go_wp2_with (go_at_call 33; refine cR.mono ?_; rintro e w1 ⟨rfl, hb1⟩)
        go_ret
        exact ⟨rfl, hb1⟩
      · have h2z : decide ((s.size : Int) ≤ 40) = false := decide_eq_false h2
        rw [decide_eq_true h1, h2z]
        clear h2
        go_enter Tryd.func32, Tryd.ntmps32
        go_wp2_with (go_at_call 33; refine cR.mono ?_; rintro e w1 ⟨rfl, hb1⟩)
        go_ret
        exact ⟨rfl, hb1⟩
    · have h1z : decide ((1 : Int) ≤ (s.size : Int)) = false := decide_eq_false h1
      rw [h1z]
      clear h1
      go_enter Tryd.func32, Tryd.ntmps32
      go_wp2_with (go_at_call 33; refine cR.mono ?_; rintro e w1 ⟨rfl, hb1⟩)
      go_ret
      exact ⟨rfl, hb1⟩
end Go.Proofs.YtcadfaecoldcpaaDoor

/-
  THE WALKS of the document's answer for layer 7: put. Conditions: stated at each.
-/
set_option linter.unusedVariables false
set_option linter.unusedSimpArgs false
namespace Go.Proofs.YtcadfaecoldcpaaDoor
open Go.RowKit Go.Lib Go.Shelf Go.Maps

theorem own_setS {w : World} {base size : Nat} {e : TypeId} {g n cap k : Nat} {xs : List Value} (h : w.ownsRow base e size (.slice (some ⟨g, 0, none⟩) n cap) n xs) (u : Value) : (w.setCell ⟨g, k, none⟩ u).ownsRow base e size (.slice (some ⟨g, 0, none⟩) n cap) n (xs.set k u) := by
  refine ⟨by rw [List.length_set]; exact h.1, ?_⟩
  rcases h.2 with ⟨h1, _⟩ | ⟨g', cap', cur, hv, hb', hg', h3, h4, h5, h6⟩
  · exact absurd h1 (by simp)
  · have hgg : g' = g ∧ cap' = cap := by
      injection hv with h1 h2 h3
      injection h1 with h1
      injection h1 with h1
      exact ⟨h1.symm, h3.symm⟩
    obtain ⟨rfl, rfl⟩ := hgg
    refine .inr ⟨g', cap', cur.setIfInBounds k u, rfl, hb', Lib.heap_setCell_same hg' u, h3, h4, by simpa using h5, ?_⟩
    rw [Array.toList_setIfInBounds, List.take_set, h6]
theorem own_cellS {w : World} {base size : Nat} {e : TypeId} {g n cap : Nat} {xs : List Value} (h : w.ownsRow base e size (.slice (some ⟨g, 0, none⟩) n cap) n xs) : (∀ k u, xs[k]? = some u → w.cell? ⟨g, k, none⟩ = some u) ∧ (∀ k, w.frozen? ⟨g, k, none⟩ = false) := by
  refine ⟨fun k u hk => ?_, fun k => ?_⟩
  · have := World.ownsRow.cells h (g := g) rfl k u hk
    rw [add_lit, Nat.zero_add] at this
    exact this
  · rcases h.2 with ⟨h1, _⟩ | ⟨g', cap', cur, hv, hb', hg', _⟩
    · exact absurd h1 (by simp)
    · have hgg : g' = g := by
        injection hv with h1
        injection h1 with h1
        injection h1 with h1
        exact h1.symm
      subst hgg
      unfold World.frozen?
      simp only [hg']
      simp
/-- append onto a row of the call's own, of no element, too. -/
theorem wpList_app0 {P : Program} (w : World) {ops : Array Oper} {rest : List Oper} {o : Oper} {a : Act} {Q : Exit → Act → World → Prop} {t e : TypeId} {size bytes : Nat} (hE : EltOk P t e size bytes) (hgd : o.guard = none) (s x : Operand)
    (ho : o.op = .call { callee := .builtin .append, args := #[s, x], argTypes := #[t, t] })
    (base : Nat) (g0 c0 : Nat) (n : Nat) (xs : List Value) (hs : a.eval s = .slice (some ⟨g0, 0, none⟩) n c0) (hown : w.ownsRow base e size (.slice (some ⟨g0, 0, none⟩) n c0) n xs)
    (ad : Addr) (m c : Nat) (news : List Value) (hx : a.eval x = .slice (some ad) m c) (hl : news.length = m * size) (hnews : ∀ j u, news[j]? = some u → w.cell? (ad.add j) = some u) (h1 : ∀ u ∈ news, u.oneCell' = true)
    (h63 : n + m ≤ maxLen) (hbytes : (n + m) * bytes ≤ 140737488355328) (hbase : base ≤ w.heap.size)
    (h : ∀ g cap w1, w1.ownsRow base e size (.slice (some ⟨g, 0, none⟩) (n + m) cap) (n + m) (xs ++ news) → w.grownBy w1 (some g0) → (g = g0 ∨ g = w.heap.size) →
      wpList P ops Q rest (a.put o.dst (.slice (some ⟨g, 0, none⟩) (n + m) cap)) w1) : wpList P ops Q (o :: rest) a w := by
  obtain ⟨i, z, hi, hz, hsz, hby, hzs⟩ := hE.hi
  refine wpList_append_own_at w hgd s x t ho base e i z size bytes hE.ht hi hz hsz hby hzs hE.pos _ n xs hs hown ad m c news hx hl hnews h1 h63 hbytes hbase fun v' w' hown' hgr hnil hat => ?_
  rcases hown'.2 with ⟨hv, _⟩ | ⟨g, cap, cur, hv, _⟩
  · have := (hnil.1 hv).1
    cases this
  · subst hv
    refine h g cap w' hown' hgr ?_
    rcases hat with hat | hat
    · left
      exact Option.some.inj hat
    · right
      exact Option.some.inj hat
/-- An empty row of the call's own. -/
theorem own_empty (w : World) (e : TypeId) (size : Nat) : (w.alloc (.cells #[] e)).ownsRow w.heap.size e size (.slice (some ⟨w.heap.size, 0, none⟩) 0 0) 0 [] :=
  ⟨by simp, .inr ⟨w.heap.size, 0, #[], rfl, Nat.le_refl _, heap_alloc_new _ _, Nat.le_refl _, Nat.zero_le _, by simp, by simp⟩⟩
theorem rdD_cells {w : World} {g o : Nat} {l : List DocL} (h : RdD w (some ⟨g, o, none⟩) l) : ∀ j u, (cellsD l)[j]? = some u → w.cell? ((⟨g, o, none⟩ : Addr).add j) = some u := by
  intro j u hu
  have hj := (List.getElem?_eq_some_iff.1 hu).1
  rw [cellsD_len] at hj
  have hi : j / 3 < l.length := by omega
  obtain ⟨g', o', hA, _, c0, c1, c2⟩ := h (j / 3) hi
  cases hA
  have hd := cellsD_get l (j / 3) hi (j % 3) (by omega)
  rw [show j / 3 * 3 + j % 3 = j by omega, hu] at hd
  rw [add_lit]
  have hm : j % 3 = 0 ∨ j % 3 = 1 ∨ j % 3 = 2 := by omega
  rcases hm with hm | hm | hm
  · rw [hm] at hd
    rw [show o + j = o + j / 3 * 3 by omega, c0]
    exact hd.symm
  · rw [hm] at hd
    rw [show o + j = o + j / 3 * 3 + 1 by omega, c1]
    exact hd.symm
  · rw [hm] at hd
    rw [show o + j = o + j / 3 * 3 + 2 by omega, c2]
    exact hd.symm
theorem one_cell_docs (l : List DocL) : ∀ u ∈ cellsD l, u.oneCell' = true := by
  intro u hu
  obtain ⟨d, _, hd⟩ := List.mem_flatMap.1 hu
  exact one_cell_doc d u hd
theorem cellsD_put : ∀ (l : List DocL) (i : Nat) (h : i < l.length) (v : Int) (t : List UInt8), ((cellsD l).set (i * 3 + 1) (.int .i64 v)).set (i * 3 + 2) (.string ⟨t.toArray⟩) = cellsD (l.set i ⟨(l[i]'h).n, v, t⟩)
  | x :: r, 0, _, v, t => by simp [cellsD, docC]
  | x :: r, i + 1, h, v, t => by
    have ih := cellsD_put r i (by simpa using h) v t
    rw [List.set_cons_succ]
    show ((docC x ++ cellsD r).set ((i + 1) * 3 + 1) (.int .i64 v)).set ((i + 1) * 3 + 2) (.string ⟨t.toArray⟩) = docC x ++ cellsD _
    rw [List.set_append_right _ _ (by simp [docC]; omega), List.set_append_right _ _ (by simp [docC]; omega)]
    have e1 : (i + 1) * 3 + 1 - (docC x).length = i * 3 + 1 := by simp [docC]; omega
    have e2 : (i + 1) * 3 + 2 - (docC x).length = i * 3 + 2 := by simp [docC]; omega
    rw [e1, e2, ih]
    rfl

/-- What an act of the document's store answers. -/
def ActM (p : List DocL × Nat) (r : Nat) (w : World) (e : Ending) (w' : World) : Prop := ∃ A c, e = .returned (.int .i64 (p.2 : Nat)) ∧ Sm w' r A c p.1 ∧ w.grownBy w' (some r)
theorem frozen_box {w : World} {r : Nat} {v : Value} {t : TypeId} (h : w.heap[r]? = some (.cells #[v] t)) : w.frozen? ⟨r, 0, none⟩ = false := by
  unfold World.frozen?
  simp only [h]
  simp
theorem grownBy_setC (w : World) (b i : Nat) (v : Value) : w.grownBy (w.setCell ⟨b, i, none⟩ v) (some b) :=
  ⟨rfl, rfl, rfl, by simp [World.setCell], fun k hk hne => Below.heap_setCell _ _ _ _ (fun e => hne (by rw [e]))⟩
theorem own_cap {w : World} {base size : Nat} {e : TypeId} {g n cap : Nat} {xs : List Value} (h : w.ownsRow base e size (.slice (some ⟨g, 0, none⟩) n cap) n xs) : n ≤ cap := by
  rcases h.2 with ⟨h1, _⟩ | ⟨g', cap', cur, hv, hb', hg', h3, _⟩
  · exact absurd h1 (by simp)
  · injection hv with _ _ h5
    omega
/-- The list that was made is the store's. -/
theorem sm_store {w w3 : World} {r c : Nat} {A : Option Addr} {L : List DocL} (h : Sm w r A c L) {g1 c1 : Nat} {e : TypeId} {M : List DocL} (hb : Below w.heap.size w w3) (hown : w3.ownsRow w.heap.size e 3 (.slice (some ⟨g1, 0, none⟩) M.length c1) M.length (cellsD M)) :
    Sm (w3.setCell ⟨r, 0, none⟩ (.slice (some ⟨g1, 0, none⟩) M.length c1)) r (some ⟨g1, 0, none⟩) c1 M ∧ w.grownBy (w3.setCell ⟨r, 0, none⟩ (.slice (some ⟨g1, 0, none⟩) M.length c1)) (some r) := by
  refine ⟨⟨Lib.heap_setCell_same ((hb.block r h.lt).trans h.box) _, rdD_own (ownsRow_setCell_below hown h.lt _), own_cap hown⟩, (below_grown hb _).trans (grownBy_setC _ _ _ _)⟩
set_option maxRecDepth 100000 in
set_option maxHeartbeats 1000000 in
theorem refPut_any (r c : Nat) (A : Option Addr) (L : List DocL) (i : Nat) (v : Int) (t : ByteArray) (w : World) (h : Sm w r A c L) (hl : L.length ≤ 1000) (hi : i < L.length) :
    Calls Tryd.prog 37 #[.pointer (some ⟨r, 0, none⟩), .int .i64 i, .int .i64 v, .string t] w (ActM (L.set i ⟨(L[i]'hi).n, v, t.data.toList⟩, 0) r w) := by
  have HS := Lib.hid h
  have hc := (h.below (bal w (.cells #[] 24))).cell
  obtain ⟨g, o, hA, hg, _⟩ := h.rd 0 (by omega)
  subst hA
  have hcl := cellsD_len L
  have hiz : (i : Int) < (L.length : Int) := by omega
  have hput := cellsD_put L i hi v t.data.toList
  rw [show (⟨t.data.toList.toArray⟩ : ByteArray) = t from data_inj rfl] at hput
  have HP := Lib.hid hput
  clear h hput
  go_enter Tryd.func37, Tryd.ntmps37
  go_wp2_with (at_builtin; refine wpList_app0 _ eltDocs rfl (.tmp 10) (.tmp 14) rfl w.heap.size w.heap.size 0 0 [] rfl (own_empty w _ 3) ⟨g, o, none⟩ L.length c (cellsD L) rfl hcl (rdD_cells (HS.out.rd.below (bal w _))) (one_cell_docs L) (maxLen_of (by omega)) (by omega) (by simp) ?_; intro g1 c1 w1 hown1 hgr1 hat1; rw [Nat.zero_add, List.nil_append] at hown1; rw [Nat.zero_add]; have hb1 : Below w.heap.size w w1 := (bal w _).grown hgr1 (by simp) (fun k hk => by cases hk; exact Nat.le_refl _); have hge : w.heap.size ≤ g1 := (World.ownsRow.lt hown1 g1 rfl).1; have hS1 := HS.out.below hb1; obtain ⟨x1, hx1⟩ : ∃ x, (cellsD L)[i * 3 + 1]? = some x := ⟨_, List.getElem?_eq_getElem (by omega)⟩; have k1 := (own_cellS hown1).1 _ _ hx1; have f1 := (own_cellS hown1).2 (i * 3 + 1); have hown2 := own_setS (k := i * 3 + 1) hown1 (.int .i64 v); obtain ⟨x2, hx2⟩ : ∃ x, ((cellsD L).set (i * 3 + 1) (.int .i64 v))[i * 3 + 2]? = some x := ⟨_, List.getElem?_eq_getElem (by rw [List.length_set]; omega)⟩; have k2 := (own_cellS hown2).1 _ _ hx2; have f2 := (own_cellS hown2).2 (i * 3 + 2); have hown3 := own_setS (k := i * 3 + 2) hown2 (.string t); rw [HP.out] at hown3; have hb3 := (hb1.setCell (p := ⟨g1, i * 3 + 1, none⟩) hge (.int .i64 v)).setCell (p := ⟨g1, i * 3 + 2, none⟩) hge (.string t); have hS3 := HS.out.below hb3; have k3 := hS3.cell; have f3 := frozen_box hS3.box; have HO3 := Lib.hid hown3; have HB3 := Lib.hid hb3; have HG1 := Lib.hid hge; clear hown1 hown2 hown3 hgr1 hat1 hx1 hx2 hb1 hb3 hS1 hS3 hge)
  go_ret
  have e := sm_store HS.out HB3.out (g1 := g1) (c1 := c1) (M := L.set i ⟨(L[i]'hi).n, v, t.data.toList⟩) (by
    have := HO3.out
    rw [show L.length = (L.set i ⟨(L[i]'hi).n, v, t.data.toList⟩).length from List.length_set.symm] at this
    exact this)
  rw [List.length_set] at e
  exact ⟨_, _, rfl, e.1, e.2⟩
end Go.Proofs.YtcadfaecoldcpaaDoor

/-
  THE WALKS of the document's answer for layer 7: Close. Conditions: stated at each.
-/
set_option linter.unusedVariables false
set_option linter.unusedSimpArgs false
namespace Go.Proofs.YtcadfaecoldcpaaDoor
open Go.RowKit Go.Lib Go.Shelf Go.Maps

theorem rise_ne {L : List DocL} (h : RiseL L) {j k : Nat} (hj : j < L.length) (hk : k < L.length) (hne : j ≠ k) : (L[j]).n ≠ (L[k]).n := by
  rcases Nat.lt_or_gt_of_ne hne with hlt | hgt
  · exact bb_ne (List.pairwise_iff_getElem.1 h j k hj hk hlt)
  · exact fun e => bb_ne (List.pairwise_iff_getElem.1 h k j hk hj hgt) e.symm
theorem putL_set {L : List DocL} (h : RiseL L) {k : Nat} (hk : k < L.length) (d : DocL) (hd : (L[k]).n = d.n) : putL L d = L.set k d := by
  unfold putL
  refine List.ext_getElem (by simp) fun j h1 h2 => ?_
  have hj : j < L.length := by simpa using h1
  rw [List.getElem_map, List.getElem_set]
  by_cases e : k = j
  · subst e
    rw [if_pos rfl, if_pos (by rw [hd]; simp)]
  · rw [if_neg e, if_neg]
    rw [beq_iff_eq]
    exact fun e2 => rise_ne h hj hk (fun e3 => e e3.symm) (e2.trans hd.symm)
theorem dropL_cut : ∀ {L : List DocL}, RiseL L → ∀ {k : Nat} (hk : k < L.length) {n : List UInt8}, (L[k]).n = n → dropL L n = L.take k ++ L.drop (k + 1)
  | x :: r, h, 0, _, n, hn => by
    obtain ⟨h1, h2⟩ := List.pairwise_cons.1 h
    have hx : x.n = n := hn
    have hr : hasL r n = false := by
      cases hh : hasL r n with
      | false => rfl
      | true =>
        obtain ⟨d, hd, he⟩ := hasL_iff.1 hh
        exact absurd (hx.trans he.symm) (bb_ne (h1 d hd))
    have := dropL_none hr
    unfold dropL at this ⊢
    rw [List.filter_cons, hx]
    simp only [beq_self_eq_true, Bool.not_true, Bool.false_eq_true, if_false]
    rw [this]
    rfl
  | x :: r, h, k + 1, hk, n, hn => by
    obtain ⟨h1, h2⟩ := List.pairwise_cons.1 h
    have hk2 : k < r.length := by simpa using hk
    have hn2 : (r[k]).n = n := hn
    have ih := dropL_cut h2 hk2 hn2
    have hx : (x.n == n) = false := by
      rw [beq_eq_false_iff_ne, ← hn2]
      exact bb_ne (h1 _ (List.getElem_mem hk2))
    unfold dropL at ih ⊢
    rw [List.filter_cons, hx]
    simp only [Bool.not_false, if_true]
    rw [ih]
    rfl
theorem RdD.take {w : World} {A : Option Addr} {l : List DocL} (h : RdD w A l) (k : Nat) : RdD w A (l.take k) := by
  intro i hi
  have hi2 : i < l.length := by rw [List.length_take] at hi; omega
  obtain ⟨g, o, h1⟩ := h i hi2
  rw [List.getElem_take]
  exact ⟨g, o, h1⟩
theorem RdD.drop {w : World} {g o : Nat} {l : List DocL} (h : RdD w (some ⟨g, o, none⟩) l) (k : Nat) : RdD w (some ⟨g, o + k * 3, none⟩) (l.drop k) := by
  intro i hi
  have hi2 : k + i < l.length := by rw [List.length_drop] at hi; omega
  obtain ⟨g', o', h1, h2, c⟩ := h (k + i) hi2
  cases h1
  rw [List.getElem_drop]
  refine ⟨g, o + k * 3, rfl, h2, ?_⟩
  rw [show o + (k + i) * 3 = o + k * 3 + i * 3 by omega] at c
  exact c
set_option maxRecDepth 100000 in
set_option maxHeartbeats 1000000 in
theorem refClose_any (r c : Nat) (A : Option Addr) (L : List DocL) (n : ByteArray) (w : World) (h : Sm w r A c L) (hl : L.length ≤ 1000) (hr : RiseL L) :
    Calls Tryd.prog 23 #[.pointer (some ⟨r, 0, none⟩), .string n] w (ActM (closeL L n.data.toList) r w) := by
  have HS := Lib.hid h
  have cF := refFind_any r c A L n w h hl
  cases hh : hasL L n.data.toList with
  | false =>
    rw [findX_not hh] at cF
    have e : closeL L n.data.toList = (L, 72) := by
      unfold closeL
      rw [hh, if_neg (by decide)]
    rw [e]
    clear hh e h
    go_enter Tryd.func23, Tryd.ntmps23
    go_wp2_with (go_at_call 34; refine cF.mono ?_; rintro e w2 ⟨rfl, rfl⟩)
    go_ret
    exact ⟨A, c, rfl, HS.out, below_grown (Below.refl _ _) _⟩
  | true =>
    obtain ⟨k, hk, hx, hn, hf⟩ := findX_has hh
    rw [hx] at cF
    obtain ⟨M, hM⟩ : ∃ M, M = L.take k ++ L.drop (k + 1) := ⟨_, rfl⟩
    have e : closeL L n.data.toList = (M, 0) := by
      unfold closeL
      rw [if_pos hh, dropL_cut hr hk hn, hM]
    rw [e]
    have hc := (h.below (bal w (.cells #[] 24))).cell
    have hcap := h.cap
    obtain ⟨g, o, hA, hg, hcs⟩ := h.rd 0 (by omega)
    subst hA
    clear hcs
    have hkz : (k : Int) < (L.length : Int) := by omega
    have hkc : (k : Int) ≤ (c : Int) := by omega
    have hk1 : (k : Int) + 1 ≤ (L.length : Int) := by omega
    have hlt : (L.take k).length = k := by rw [List.length_take]; omega
    have hld : (L.drop (k + 1)).length = L.length - (k + 1) := List.length_drop ..
    clear hf
    have hml : k + (L.length - (k + 1)) = M.length := by rw [hM, List.length_append, hlt, hld]
    have hmc : cellsD (L.take k) ++ cellsD (L.drop (k + 1)) = cellsD M := by rw [hM, cellsD_app]
    obtain ⟨o2, ho2, hrd2⟩ : ∃ o2, (if c = k + 1 then some (⟨g, o, none⟩ : Addr) else some ⟨g, o + (k + 1) * 3, none⟩) = some ⟨g, o2, none⟩ ∧ ∀ w', RdD w' (some ⟨g, o, none⟩) L → RdD w' (some ⟨g, o2, none⟩) (L.drop (k + 1)) := by
      by_cases hck : c = k + 1
      · refine ⟨o, by rw [if_pos hck], fun w' _ => ?_⟩
        rw [List.drop_of_length_le (by omega)]
        exact fun i hi => absurd hi (by simp)
      · exact ⟨o + (k + 1) * 3, by rw [if_neg hck], fun w' h => h.drop (k + 1)⟩
    have HML := Lib.hid hml
    have HMC := Lib.hid hmc
    have HO2 := Lib.hid ho2
    have HRD2 := Lib.hid hrd2
    clear hml hmc ho2 hrd2
    clear hh e h hx hn hr hM
    go_enter Tryd.func23, Tryd.ntmps23
    have hct := cellsD_len (L.take k)
    have hcd := cellsD_len (L.drop (k + 1))
    rw [hlt] at hct
    rw [hld] at hcd
    go_wp2_with (first
      | (go_at_call 34; refine cF.mono ?_; rintro e w2 ⟨rfl, rfl⟩)
      | (at_builtin; refine wpList_app0 _ eltDocs rfl (.tmp 20) (.tmp 27) rfl w2.heap.size g1 c1 k _ rfl HO1.out ⟨g, o2, none⟩ (L.length - (k + 1)) (c - (k + 1)) (cellsD (L.drop (k + 1))) (by show Value.slice (if c = k + 1 then some (⟨g, o, none⟩ : Addr) else some ⟨g, o + (k + 1) * 3, none⟩) _ _ = _; rw [HO2.out]) hcd (rdD_cells (HRD2.out _ HS1.out.rd)) (one_cell_docs _) (maxLen_of (by omega)) (by omega) hbs1 ?_; intro g2 cc w3 hown2 hgr2 hat2; rw [HML.out, HMC.out] at hown2; rw [HML.out]; have hb3 := HB1.out.grown hgr2 hbs1 (fun j hj => by cases hj; exact HG1.out); have hS3 := HS.out.below hb3; have k3 := hS3.cell; have f3 := frozen_box hS3.box; have HO3 := Lib.hid hown2; have HB3 := Lib.hid hb3; clear hown2 hgr2 hat2 hb3 hS3)
      | (at_builtin; refine wpList_app0 _ eltDocs rfl (.tmp 12) (.tmp 18) rfl w2.heap.size w2.heap.size 0 0 [] rfl (own_empty w2 _ 3) ⟨g, o, none⟩ k c (cellsD (L.take k)) rfl hct (rdD_cells ((HS.out.rd.below (bal w2 _)).take k)) (one_cell_docs _) (maxLen_of (by omega)) (by omega) (by simp) ?_; intro g1 c1 w1 hown1 hgr1 hat1; rw [Nat.zero_add, List.nil_append] at hown1; rw [Nat.zero_add]; have hb1 : Below w2.heap.size w2 w1 := (bal w2 _).grown hgr1 (by simp) (fun k hk => by cases hk; exact Nat.le_refl _); have hge : w2.heap.size ≤ g1 := (World.ownsRow.lt hown1 g1 rfl).1; have hS1 := HS.out.below hb1; have k1 := hS1.cell; have hbs1 := hb1.size; have HO1 := Lib.hid hown1; have HB1 := Lib.hid hb1; have HS1 := Lib.hid hS1; have HG1 := Lib.hid hge; clear hown1 hgr1 hat1 hb1 hS1 hge))
    all_goals
      go_ret
      have e := sm_store HS.out HB3.out HO3.out
      exact ⟨_, _, rfl, e.1, e.2⟩
end Go.Proofs.YtcadfaecoldcpaaDoor

/-
  THE WALKS of the document's answer for layer 7: Change, Whole. Conditions: stated at each.
-/
set_option linter.unusedVariables false
set_option linter.unusedSimpArgs false
namespace Go.Proofs.YtcadfaecoldcpaaDoor
open Go.RowKit Go.Lib Go.Shelf Go.Maps

theorem newX_none {L : List DocL} {n : List UInt8} {v : Int} (h : findL L n = none) : newX L n v = (0, 72) := by unfold newX; rw [h]
theorem newX_old {L : List DocL} {n : List UInt8} {v : Int} {d : DocL} (h : findL L n = some d) (hv : v ≤ d.v) : newX L n v = (0, 71) := by unfold newX; rw [h]; simp only; rw [if_pos hv]
theorem newX_new {L : List DocL} {n : List UInt8} {v : Int} {d : DocL} (h : findL L n = some d) (hv : ¬ v ≤ d.v) : newX L n v = (findX L n, 0) := by unfold newX; rw [h]; simp only; rw [if_neg hv]
theorem findX_find {L : List DocL} {n : List UInt8} {d : DocL} (h : findL L n = some d) : ∃ k, ∃ hk : k < L.length, findX L n = k ∧ (L[k]).n = n ∧ L[k] = d := by
  obtain ⟨k, hk, h1, h2, h3⟩ := findX_has (by rw [findL_has, h]; rfl : hasL L n = true)
  exact ⟨k, hk, h1, h2, by rw [h] at h3; exact (Option.some.inj h3).symm⟩

set_option maxRecDepth 100000 in
set_option maxHeartbeats 1000000 in
theorem refWhole_any (r c : Nat) (A : Option Addr) (L : List DocL) (n : ByteArray) (v : Int) (t : ByteArray) (w : World) (h : Sm w r A c L) (hl : L.length ≤ 1000) (hr : RiseL L) (ht : t.size ≤ 16777216) :
    Calls Tryd.prog 22 #[.pointer (some ⟨r, 0, none⟩), .string n, .int .i64 v, .string t] w (ActM (wholeL L n.data.toList v t.data.toList) r w) := by
  have HS := Lib.hid h
  have cN := refNewer_any r c A L n v w h hl
  have cR := refRight_any t w ht
  have htl := Lib.size_eq t
  unfold wholeL becomeL
  cases hf : findL L n.data.toList with
  | none =>
    rw [newX_none hf] at cN
    simp only
    generalize validD t.data.toList = vv at cR
    clear hf h htl
    go_enter Tryd.func22, Tryd.ntmps22
    go_wp2_with (first
      | (go_at_call 35; refine cN.mono ?_; rintro e w1 ⟨rfl, rfl⟩)
      | (go_at_call 33; refine cR.mono ?_; rintro e w2 ⟨rfl, hb2⟩))
    (try simp only [Exit.inBlock, Exit.then])
    go_ret
    exact ⟨A, c, rfl, HS.out.below hb2, below_grown hb2 _⟩
  | some d =>
    simp only
    by_cases hv : v ≤ d.v
    · rw [if_pos hv]
      rw [newX_old hf hv] at cN
      generalize validD t.data.toList = vv at cR
      clear hf h htl hv
      go_enter Tryd.func22, Tryd.ntmps22
      go_wp2_with (first
        | (go_at_call 35; refine cN.mono ?_; rintro e w1 ⟨rfl, rfl⟩)
        | (go_at_call 33; refine cR.mono ?_; rintro e w2 ⟨rfl, hb2⟩))
      (try simp only [Exit.inBlock, Exit.then])
      go_ret
      exact ⟨A, c, rfl, HS.out.below hb2, below_grown hb2 _⟩
    · rw [if_neg hv]
      rw [newX_new hf hv] at cN
      obtain ⟨k, hk, hx, hn, hd⟩ := findX_find hf
      rw [hx] at cN
      unfold holdsL
      cases hvt : validD t.data.toList with
      | false =>
        rw [hvt] at cR
        rw [if_neg (show ¬ (if false = true then (if 16384 < t.data.toList.length then 73 else 0) else 11) = 0 by simp), if_neg (by decide)]
        clear hf h htl hv hx hn hd
        go_enter Tryd.func22, Tryd.ntmps22
        go_wp2_with (first
          | (go_at_call 35; refine cN.mono ?_; rintro e w1 ⟨rfl, rfl⟩)
          | (go_at_call 33; refine cR.mono ?_; rintro e w2 ⟨rfl, hb2⟩))
        (try simp only [Exit.inBlock, Exit.then])
        go_ret
        exact ⟨A, c, rfl, HS.out.below hb2, below_grown hb2 _⟩
      | true =>
        rw [hvt] at cR
        rw [if_pos rfl, ← htl]
        by_cases h3 : 16384 < t.size
        · rw [if_pos h3, if_neg (by decide)]
          have h3z : (16384 : Int) < (t.size : Int) := by omega
          clear hf h htl hv hx hn hd
          go_enter Tryd.func22, Tryd.ntmps22
          go_wp2_with (first
            | (go_at_call 35; refine cN.mono ?_; rintro e w1 ⟨rfl, rfl⟩)
            | (go_at_call 33; refine cR.mono ?_; rintro e w2 ⟨rfl, hb2⟩))
          (try simp only [Exit.inBlock, Exit.then])
          go_ret
          exact ⟨A, c, rfl, HS.out.below hb2, below_grown hb2 _⟩
        · rw [if_neg h3, if_pos rfl]
          have h3z : (t.size : Int) ≤ 16384 := by omega
          have e : putL L ⟨n.data.toList, v, t.data.toList⟩ = L.set k ⟨(L[k]).n, v, t.data.toList⟩ := by
            rw [putL_set hr hk ⟨n.data.toList, v, t.data.toList⟩ hn, hn]
          rw [e]
          have cP := Lib.hid fun w' hS => refPut_any r c A L k v t w' hS hl hk
          clear e hf h htl hv hx hn hd
          go_enter Tryd.func22, Tryd.ntmps22
          go_wp2_with (first
            | (go_at_call 35; refine cN.mono ?_; rintro e w1 ⟨rfl, rfl⟩)
            | (go_at_call 33; refine cR.mono ?_; rintro e w2 ⟨rfl, hb2⟩)
            | (go_at_call 37; refine (cP.out _ (HS.out.below hb2)).mono ?_; rintro e w3 ⟨A3, c3, rfl, hS3, hg3⟩))
          (try simp only [Exit.inBlock, Exit.then])
          go_ret
          exact ⟨A3, c3, rfl, hS3, (below_grown hb2 _).trans hg3⟩
end Go.Proofs.YtcadfaecoldcpaaDoor

/-
  THE WALKS of the document's answer for layer 7: Change. Conditions: stated at each.
-/
set_option linter.unusedVariables false
set_option linter.unusedSimpArgs false
namespace Go.Proofs.YtcadfaecoldcpaaDoor
open Go.RowKit Go.Lib Go.Shelf Go.Maps

set_option maxRecDepth 100000 in
set_option maxHeartbeats 1000000 in
theorem refChange_any (r c : Nat) (A : Option Addr) (L : List DocL) (n : ByteArray) (v : Int) (Ae : Option Addr) (ce : Nat) (l : List EdV) (w : World) (h : Sm w r A c L) (hl : L.length ≤ 1000) (hr : RiseL L) (hdo : ∀ d ∈ L, DocOk d) (hel : l.length ≤ 1048576) (hok : ∀ e ∈ l, e.Ok) (hre : RdE w Ae l) :
    Calls Tryd.prog 21 #[.pointer (some ⟨r, 0, none⟩), .string n, .int .i64 v, .slice Ae l.length ce] w (ActM (changeL L n.data.toList v (l.map EdV.l)) r w) := by
  have HS := Lib.hid h
  have cN := refNewer_any r c A L n v w h hl
  unfold changeL becomeL
  cases hf : findL L n.data.toList with
  | none =>
    rw [newX_none hf] at cN
    simp only
    clear hf h
    go_enter Tryd.func21, Tryd.ntmps21
    go_wp2_with (go_at_call 35; refine cN.mono ?_; rintro e w1 ⟨rfl, rfl⟩)
    (try simp only [Exit.inBlock, Exit.then])
    go_ret
    exact ⟨A, c, rfl, HS.out, below_grown (Below.refl _ _) _⟩
  | some d =>
    simp only
    by_cases hv : v ≤ d.v
    · rw [if_pos hv]
      rw [newX_old hf hv] at cN
      clear hf h hv
      go_enter Tryd.func21, Tryd.ntmps21
      go_wp2_with (go_at_call 35; refine cN.mono ?_; rintro e w1 ⟨rfl, rfl⟩)
      (try simp only [Exit.inBlock, Exit.then])
      go_ret
      exact ⟨A, c, rfl, HS.out, below_grown (Below.refl _ _) _⟩
    · rw [if_neg hv]
      rw [newX_new hf hv] at cN
      obtain ⟨k, hk, hx, hn, hd⟩ := findX_find hf
      rw [hx] at cN
      have hkz : (k : Int) < (L.length : Int) := by omega
      obtain ⟨g, o, hA, hg, c0, c1, c2⟩ := h.rd k hk
      subst hA
      have hc := h.cell
      rw [hd] at c2
      have hdk := hdo d (hd ▸ List.getElem_mem hk)
      have hdt : (⟨d.t.toArray⟩ : ByteArray).size ≤ 16384 := by
        rw [Lib.size_eq]
        exact hdk.t
      have cA := refApply_any ⟨d.t.toArray⟩ Ae ce l w (by omega) hel hok hre
      rw [show (⟨d.t.toArray⟩ : ByteArray).data.toList = d.t from rfl] at cA
      obtain ⟨⟨x, er⟩, hxe⟩ : ∃ z, z = applyL d.t (l.map EdV.l) := ⟨_, rfl⟩
      rw [← hxe] at cA
      rw [← hxe]
      have HA := Lib.hid cA
      clear cA hxe hdk hdt hok hre hdo c0 c1
      generalize (⟨d.t.toArray⟩ : ByteArray) = T at c2 HA
      by_cases her : er = 0
      · subst her
        rw [if_pos rfl]
        have e : putL L ⟨n.data.toList, v, x⟩ = L.set k ⟨(L[k]).n, v, x⟩ := by
          rw [putL_set hr hk ⟨n.data.toList, v, x⟩ hn, hn]
        simp only
        rw [e]
        have cP := Lib.hid fun w' (hS : Sm w' r (some ⟨g, o, none⟩) c L) => refPut_any r c _ L k v ⟨x.toArray⟩ w' hS hl hk
        clear e hf h hv hx hn hd
        go_enter Tryd.func21, Tryd.ntmps21
        go_wp2_with (first
          | (go_at_call 35; refine cN.mono ?_; rintro e w1 ⟨rfl, rfl⟩)
          | (go_at_call 36; refine (HA.out.mono ap_lit).mono ?_; rintro e w2 ⟨rfl, hb2⟩)
          | (go_at_call 37; refine (cP.out _ (HS.out.below hb2)).mono ?_; rintro e w3 ⟨A3, c3, rfl, hS3, hg3⟩))
        (try simp only [Exit.inBlock, Exit.then])
        go_ret
        exact ⟨A3, c3, rfl, hS3, (below_grown hb2 _).trans hg3⟩
      · rw [if_neg her]
        have herz : ((er : Int) == 0) = false := by
          rw [beq_eq_false_iff_ne]
          omega
        clear hf h hv hx hn hd her
        go_enter Tryd.func21, Tryd.ntmps21
        go_wp2_with (first
          | (go_at_call 35; refine cN.mono ?_; rintro e w1 ⟨rfl, rfl⟩)
          | (go_at_call 36; refine (HA.out.mono ap_lit).mono ?_; rintro e w2 ⟨rfl, hb2⟩))
        (try simp only [Exit.inBlock, Exit.then])
        go_ret
        exact ⟨_, c, rfl, HS.out.below hb2, below_grown hb2 _⟩
end Go.Proofs.YtcadfaecoldcpaaDoor
