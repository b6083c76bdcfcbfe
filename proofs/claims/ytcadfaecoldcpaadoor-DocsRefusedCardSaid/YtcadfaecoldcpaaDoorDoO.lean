/-
  ARGUMENTS OPENED: an act, a slice of acts; their sizes. Conditions: stated at each.
-/
import Derived.Test.YtcadfaecoldcpaaDoorDoN
import Derived.Test.YtcadfaecoldcpaaDoorEdQ
set_option linter.unusedVariables false
set_option linter.unusedSimpArgs false
namespace Go.Proofs.YtcadfaecoldcpaaDoor
open Go.ChangeShapes Go.WideShapes Go.ChangeAt Go.RowKit Go.Shelf Go.Lib Go.Deep

structure ActV.In (a : ActV) : Prop where
  k : InI a.k
  v : InI a.v
  e : ∀ e ∈ a.l, e.In
section
variable {H : Type} {enc : TypeId × Value → H} {w : World} {base : Nat} {spare : Nat → Bool} {held : Bool} {r : Reach} {b0 : Nat}
/-- What edits read as, as data. -/
def DatE (de : DataW H) (l : List EdV) : Prop := (l = [] ∧ de = .nil) ∨ ∃ elems sp, de = .slice elems sp ∧ elems.length = l.length ∧ ∀ e ∈ l, ∃ d1 d2 : DataW H, .agg [d1, d2, .lit (.string e.t.data.toList)] ∈ elems
def DatA (d : DataW H) (a : ActV) : Prop := ∃ dk dv de : DataW H, d = .agg [dk, .agg [.lit (.string a.n.data.toList), dv, .lit (.string a.t.data.toList)], de] ∧ DatE de a.l
set_option maxRecDepth 100000 in
theorem doc_cells {fuel : Nat} {cs : List Value} {x : DataW H × List MemPlace} (h : DataW.trod enc Tryd.prog w base spare held fuel 24 cs = some x) :
    ∃ (n : ByteArray) (v : Int) (t : ByteArray) (d1 : DataW H), cs = [.string n, .int .i64 v, .string t] ∧ InI v ∧ x.1 = .agg [.lit (.string n.data.toList), d1, .lit (.string t.data.toList)] := by
  obtain ⟨y0, y1, y2, n, rfl, hl, h0, h1, h2⟩ := trod_struct3 (t := 24) Tryd.underlying24 h
  rw [show Tryd.prog.cellsOf 24 = 3 by kernel_rfl] at hl
  match cs, hl with
  | [c0, c1, c2], _ =>
    obtain ⟨s, e0, hs, _⟩ := DataW.trod_string Tryd.underlying9 h0
    obtain ⟨v, e1, _, wv⟩ := DataW.trod_int Tryd.underlying3 h1
    obtain ⟨t, e2, ht, _⟩ := DataW.trod_string Tryd.underlying9 h2
    rw [show Tryd.prog.cellsOf 9 = 1 by kernel_rfl] at e0 e2
    rw [show Tryd.prog.cellsOf 3 = 1 by kernel_rfl] at e1
    simp at e0 e1 e2
    subst e0 e1 e2
    exact ⟨s, v, t, y1.1, rfl, bd_int wv, by rw [hs, ht]⟩
theorem slice_cell {fuel : Nat} {c : Value} {x : DataW H × List MemPlace} (h : DataW.trod enc Tryd.prog w base spare held fuel 25 [c] = some x) : ∃ A len cap, c = .slice A len cap := by
  rcases open_slice (t := 25) Tryd.underlying25 h with ⟨hcs, _⟩ | ⟨a, len', cap', m, n, D, Pl, hcs, _⟩
  · simp at hcs
    exact ⟨_, _, _, hcs⟩
  · simp at hcs
    exact ⟨_, _, _, hcs⟩
set_option maxRecDepth 100000 in
theorem act_cells {fuel : Nat} {cs : List Value} {x : DataW H × List MemPlace} (h : DataW.trod enc Tryd.prog w base spare held fuel 27 cs = some x) :
    ∃ (a : ActV) (Ae : Option Addr) (ce : Nat), cs = [.int .i64 a.k, .string a.n, .int .i64 a.v, .string a.t, .slice Ae a.l.length ce] ∧ a.In ∧ RdE w Ae a.l ∧ DatA x.1 a := by
  obtain ⟨y0, y1, y2, m, rfl, hl, h0, h1, h2⟩ := trod_struct3 (t := 27) Tryd.underlying27 h
  rw [show Tryd.prog.cellsOf 27 = 5 by kernel_rfl] at hl
  match cs, hl with
  | [c0, c1, c2, c3, c4], _ =>
    obtain ⟨k, e0, _, wk⟩ := DataW.trod_int Tryd.underlying3 h0
    obtain ⟨n, v, t, d1, e1, iv, hd1⟩ := doc_cells h1
    rw [show Tryd.prog.cellsOf 3 = 1 by kernel_rfl] at e0
    rw [show Tryd.prog.cellsOf 24 = 3 by kernel_rfl] at e1
    simp at e0 e1
    obtain ⟨rfl, rfl, rfl⟩ := e1
    subst e0
    have h2' : DataW.trod enc Tryd.prog w base spare held m 25 [c4] = some y2 := by
      rw [show Tryd.prog.cellsOf 25 = 1 by kernel_rfl] at h2
      exact h2
    obtain ⟨Ae, len, ce, rfl⟩ := slice_cell h2'
    obtain ⟨_, _, l, rfl, hr, hin, hdat⟩ := edits_cells h2'
    exact ⟨⟨k, n, v, t, l⟩, Ae, ce, rfl, ⟨bd_int wk, iv, hin⟩, hr, y0.1, d1, y2.1, by rw [hd1], hdat⟩
set_option maxRecDepth 100000 in
theorem acts_cells {fuel : Nat} {A : Option Addr} {len cap : Nat} {x : DataW H × List MemPlace} (h : DataW.trod enc Tryd.prog w base spare held fuel 22 [.slice A len cap] = some x) :
    ∃ l : List ActV, l.length = len ∧ RdA w A l ∧ (∀ a ∈ l, a.In) ∧ ((l = [] ∧ x.1 = .nil) ∨ ∃ elems sp, x.1 = .slice elems sp ∧ elems.length = len ∧ ∀ a ∈ l, ∃ d ∈ elems, DatA d a) := by
  rcases open_slice (t := 22) Tryd.underlying22 h with ⟨hcs, hx⟩ | ⟨ad, len', cap', m, n, D, Pl, hcs, _, hl, hm, hmm, hx, hel⟩
  · simp at hcs
    obtain ⟨rfl, rfl, rfl⟩ := hcs
    exact ⟨[], rfl, fun i hi => absurd hi (by simp), fun e he => (by cases he), .inl ⟨rfl, by rw [hx]⟩⟩
  · simp at hcs
    obtain ⟨rfl, rfl, rfl⟩ := hcs
    have hlm : len ≤ m := by rw [hmm]; split <;> omega
    have each : ∀ i, i < len → ∃ a : ActV, (∃ (Ae : Option Addr) (ce : Nat), (∀ j (u : Value), [Value.int .i64 a.k, .string a.n, .int .i64 a.v, .string a.t, .slice Ae a.l.length ce][j]? = some u → w.cell? ((ad.add (i * 5)).add j) = some u) ∧ RdE w Ae a.l) ∧ a.In ∧ DatA (D i) a := by
      intro i hi
      obtain ⟨cs, h1, h2⟩ := hel i (by omega)
      obtain ⟨a, Ae, ce, rfl, hin, hr, hd⟩ := act_cells h2
      rw [show Tryd.prog.cellsOf 27 = 5 by kernel_rfl] at h1
      obtain ⟨_, _, hc⟩ := World.cells?_some h1
      refine ⟨a, ⟨Ae, ce, fun j u hu => ?_, hr⟩, hin, hd⟩
      have hj : j < 5 := (List.getElem?_eq_some_iff.1 hu).1
      rw [hc j hj, hu]
    haveI : Inhabited ActV := ⟨⟨0, ⟨#[]⟩, 0, ⟨#[]⟩, []⟩⟩
    obtain ⟨E, hE⟩ := choose_lt (α := ActV) each
    refine ⟨(List.range len).map E, by simp, ?_, ?_, .inr ⟨_, _, by rw [hx], by simp, ?_⟩⟩
    · intro i hi
      simp only [List.length_map, List.length_range] at hi
      obtain ⟨⟨Ae, ce, hc, hr⟩, _, _⟩ := hE i hi
      obtain ⟨⟨Az, cz, hcz, _⟩, _⟩ := hE 0 (by omega)
      have hz := hcz 0 _ rfl
      rw [Nat.zero_mul, show (ad.add 0).add 0 = ad from rfl] at hz
      have hsp := spot_of hz
      have hlt := lt_of_cell hz
      obtain ⟨g, o, sp⟩ := ad
      simp only at hsp hlt
      subst hsp
      rw [add_lit] at hc
      simp only [List.getElem_map, List.getElem_range]
      have k := fun j u hu => hc j u hu
      simp only [add_lit] at k
      exact ⟨g, o, Ae, ce, rfl, hlt, k 0 _ rfl, k 1 _ rfl, k 2 _ rfl, k 3 _ rfl, k 4 _ rfl, hr⟩
    · intro a ha
      obtain ⟨i, hi, rfl⟩ := List.mem_map.1 ha
      exact (hE i (by simpa using hi)).2.1
    · intro a ha
      obtain ⟨i, hi, rfl⟩ := List.mem_map.1 ha
      exact ⟨D i, List.mem_map.2 ⟨i, hi, rfl⟩, (hE i (by simpa using hi)).2.2⟩
set_option maxRecDepth 100000 in
theorem wide_of {d : DataW H} {a : ActV} (hin : a.In) (h : DatA d a) (hw : ∀ x ∈ d.weights Tryd.prog 27, x ≤ 140737488355328) : a.Wide := by
  obtain ⟨dk, dv, de, rfl, hE⟩ := h
  have hsh : DataW.weights Tryd.prog 27 (.agg [dk, .agg [.lit (.string a.n.data.toList), dv, .lit (.string a.t.data.toList)], de]) = DataW.weights Tryd.prog 3 dk ++ (([a.n.data.toList.length] ++ (DataW.weights Tryd.prog 3 dv ++ ([a.t.data.toList.length] ++ []))) ++ (DataW.weights Tryd.prog 25 de ++ [])) := by
    simp [DataW.weights, DataW.weightsEach, Tryd.underlying27, Tryd.underlying24]
  rw [hsh] at hw
  have hn := hw a.n.data.toList.length (by simp)
  have ht := hw a.t.data.toList.length (by simp)
  rw [← Lib.size_eq] at hn ht
  have hed : ∀ x ∈ DataW.weights Tryd.prog 25 de, x ≤ 140737488355328 := fun x hx => hw x (by simp [hx])
  rcases hE with ⟨hl, _⟩ | ⟨elems, sp, rfl, hlen, hel⟩
  · exact ⟨hn, ht, by rw [hl]; exact Nat.zero_le _, fun e he => by rw [hl] at he; cases he⟩
  · simp only [DataW.weights, Tryd.underlying25] at hed
    have h1 := hed _ (List.mem_cons_self ..)
    rw [show Tryd.prog.bytesOf 56 = 48 by kernel_rfl] at h1
    refine ⟨hn, ht, by omega, fun e he => ⟨(hin.e e he).fu.2, (hin.e e he).tu.2, ?_⟩⟩
    obtain ⟨d1, d2, hm⟩ := hel e he
    have := hed e.t.data.toList.length (List.mem_cons_of_mem _ (List.mem_append_left _ (weights_all hm _ (by
      simp [DataW.weights, DataW.weightsEach, Tryd.underlying56]))))
    rw [Lib.size_eq]
    exact this
theorem sized_act {ts : List TypeId} {ds : List (DataW H)} (h : (DataW.weightsEach Tryd.prog ts ds).all (· ≤ reachBytes) = true) {j : Nat} {d : DataW H} {a : ActV} (ht : ts[j]? = some 27) (hd : ds[j]? = some d) (hin : a.In) (hda : DatA d a) : a.Wide :=
  wide_of hin hda fun x hx => by
    have := List.all_eq_true.1 h x (DataW.weights_mem_each ht hd x hx)
    have h2 : x ≤ reachBytes := by simpa using this
    have h3 : reachBytes = 140737488351232 := by decide
    omega
theorem sized_acts {ts : List TypeId} {ds : List (DataW H)} (h : (DataW.weightsEach Tryd.prog ts ds).all (· ≤ reachBytes) = true) {j : Nat} {elems sp : List (DataW H)} (ht : ts[j]? = some 22) (hd : ds[j]? = some (.slice elems sp)) :
    elems.length ≤ 140737488355328 ∧ ∀ d ∈ elems, ∀ a : ActV, a.In → DatA d a → a.Wide := by
  have h3 : reachBytes = 140737488351232 := by decide
  have hb : Tryd.prog.bytesOf 27 = 72 := by kernel_rfl
  constructor
  · have := List.all_eq_true.1 h ((elems.length + sp.length) * Tryd.prog.bytesOf 27) (DataW.weights_mem_each ht hd _ (by
      simp only [DataW.weights, Tryd.underlying22]
      exact List.mem_cons_self ..))
    have h2 : (elems.length + sp.length) * Tryd.prog.bytesOf 27 ≤ reachBytes := by simpa using this
    rw [hb, h3] at h2
    omega
  · intro d hm a hin hda
    refine wide_of hin hda fun x hx => ?_
    have := List.all_eq_true.1 h x (DataW.weights_mem_each ht hd x (by
      simp only [DataW.weights, Tryd.underlying22]
      exact List.mem_cons_of_mem _ (List.mem_append_left _ (weights_all hm _ hx))))
    have h2 : x ≤ reachBytes := by simpa using this
    omega
set_option maxRecDepth 100000 in
theorem open_act {v : Value} {d : DataW H} {p : List MemPlace} (hv : Value.okWide Tryd.prog w r b0 27 v) (h : DataW.Trod enc Tryd.prog w base spare held 27 v d p) :
    ∃ (a : ActV) (Ae : Option Addr) (ce : Nat), v = .agg #[.int .i64 a.k, .string a.n, .int .i64 a.v, .string a.t, .slice Ae a.l.length ce] ∧ a.In ∧ RdE w Ae a.l ∧ DatA d a := by
  obtain ⟨cs, rfl, hsz⟩ := okWide_struct Tryd.underlying27 hv
  obtain ⟨fuel, hf⟩ := h
  obtain ⟨a, Ae, ce, hcs, hin, hr, hd⟩ := act_cells hf
  obtain ⟨l⟩ := cs
  simp only [Value.cells] at hcs
  subst hcs
  exact ⟨a, Ae, ce, rfl, hin, hr, hd⟩
end
set_option maxRecDepth 100000 in
/-- DocsRefused, as it is called. -/
theorem docsRefused_any (A : Option Addr) (c : Nat) (l : List ActV) (a : ActV) (Ae : Option Addr) (ce : Nat) (w : World) (hE : Env w) (hR : RdA w A l) (hw : ∀ a ∈ l, a.Wide) (hl : l.length ≤ 140737488355328) (haw : a.Wide) (hre : RdE w Ae a.l) :
    Calls Tryd.prog 3 #[.slice A l.length c, .agg #[.int .i64 a.k, .string a.n, .int .i64 a.v, .string a.t, .slice Ae a.l.length ce]] w (BoolPost true w) :=
  docsRefused_go a Ae ce A c l w _ rfl (hE.below (bal w _)) (hR.below (bal w _)) hw hl haw (hre.below (bal w _)) (ActBox.new w a Ae ce) (bal w _)
end Go.Proofs.YtcadfaecoldcpaaDoor
