/-
  MEMORY WORDS of package docs: a document, the map of documents, the store. Conditions: stated at each.
-/
import Derived.Test.YtcadfaecoldcpaaDoorPl
import Derived.Test.YtcadfaecoldcpaaDoorEdD
import Derived.Maps.OwnSet
import Derived.Maps.Ext
set_option linter.unusedVariables false
set_option linter.unusedSimpArgs false
namespace Go.Proofs.YtcadfaecoldcpaaDoor
open Go.RowKit Go.Lib Go.Shelf Go.Maps Go.WideMaps

structure DocV where
  n : ByteArray
  v : Int
  t : ByteArray
def DocV.l (d : DocV) : DocL := ⟨d.n.data.toList, d.v, d.t.data.toList⟩
def DocV.cells (d : DocV) : Array Value := #[.string d.n, .int .i64 d.v, .string d.t]
def DocV.val (d : DocV) : Value := .agg d.cells
def DocL.vv (d : DocL) : DocV := ⟨⟨d.n.toArray⟩, d.v, ⟨d.t.toArray⟩⟩
theorem vv_l (d : DocL) : d.vv.l = d := rfl
def docD (d : DocL) : DataW Unit := .agg [.lit (.string d.n), .lit (.int .i64 d.v), .lit (.string d.t)]
def mapD (L : List DocL) : DataW Unit := .map (L.map fun d => (.string d.n, docD d))
/-- How a document's value reads. -/
def docElem (v : Value) : Option (DataW Unit × List MemPlace) := match v with
  | .agg cs => match cs.toList with
    | [.string n, .int .i64 x, .string t] => some (docD ⟨n.data.toList, x, t.data.toList⟩, [])
    | _ => none
  | _ => none
theorem docElem_mk (d : DocV) : docElem d.val = some (docD d.l, []) := rfl
theorem docD_inj {a b : DocL} (h : docD a = docD b) : a = b := by
  obtain ⟨n, v, t⟩ := a
  obtain ⟨m, u, s⟩ := b
  unfold docD at h
  simp only [DataW.agg.injEq, List.cons.injEq, DataW.lit.injEq, Lit.string.injEq, Lit.int.injEq, true_and, and_true] at h
  obtain ⟨rfl, rfl, rfl⟩ := h
  rfl
theorem docElem_inv {v : Value} {x : DocL} {ps : List MemPlace} (h : docElem v = some (docD x, ps)) : v = x.vv.val := by
  unfold docElem at h
  split at h
  · rename_i cs
    split at h
    · rename_i n y t hl
      simp only [Option.some.injEq, Prod.mk.injEq] at h
      have := docD_inj h.1
      subst this
      obtain ⟨l⟩ := cs
      simp only at hl
      subst hl
      rfl
    · cases h
  · cases h
theorem has_map (L : List DocL) (n : List UInt8) : Maps.has (mapD L) (.string n) = hasL L n := by
  unfold mapD hasL
  rw [Maps.has_eq, List.any_map]
  rfl
theorem size_map (L : List DocL) : Maps.size (mapD L) = L.length := by
  unfold mapD
  rw [Maps.size_eq, List.length_map]
theorem at_map (L : List DocL) (n : List UInt8) (z : DataW Unit) : (mapD L).atKey (.string n) z = match findL L n with | some d => docD d | none => z := by
  unfold mapD DataW.atKey findL
  simp only
  rw [List.find?_map]
  have e : (fun p : Lit × DataW Unit => p.1.sameKey (.string n)) ∘ (fun d : DocL => (Lit.string d.n, docD d)) = fun d => d.n == n := rfl
  rw [e]
  cases List.find? (fun d : DocL => d.n == n) L <;> rfl
theorem del_map (L : List DocL) (n : List UInt8) : (mapD L).del (.string n) = mapD (dropL L n) := by
  unfold mapD DataW.del dropL
  simp only
  rw [List.filter_map]
  rfl
theorem ins_map (d : DocL) : ∀ L : List DocL, DataW.insert (.string d.n, docD d) (L.map fun d => (Lit.string d.n, docD d)) = (insL d L).map fun d => (Lit.string d.n, docD d)
  | [] => rfl
  | y :: r => by
    rw [List.map_cons]
    unfold DataW.insert insL
    have e : (Lit.string d.n).before (Lit.string y.n) = bytesBefore d.n y.n := rfl
    simp only [e]
    split
    · rfl
    · rw [ins_map d r]
      rfl
theorem put_map (L : List DocL) (d : DocL) : (mapD L).put (.string d.n) (docD d) = mapD (insL d (dropL L d.n)) := by
  have h := del_map L d.n
  unfold mapD DataW.del at h
  unfold mapD DataW.put
  simp only [DataW.map.injEq] at h ⊢
  rw [h, ins_map]

/-- A map of documents. -/
def MapIs (w : World) (mb : Nat) (L : List DocL) : Prop := w.ownsMap Tryd.prog 9 docElem mb L.length (mapD L)
theorem own_tight {H : Type} {P : Program} {k : TypeId} {R : Value → Option (DataW H × List MemPlace)} {w : World} {b n : Nat} {D : DataW H} (h : w.ownsMap P k R b n D) : w.ownsMap P k R b (Maps.size D) D := by
  obtain ⟨es, clock, hb, F, hs, rfl⟩ := h
  refine ⟨es, clock, hb, F, ?_, rfl⟩
  simp [Maps.size, length_sorted]
theorem mapIs_of {w : World} {mb n : Nat} {L : List DocL} (h : w.ownsMap Tryd.prog 9 docElem mb n (mapD L)) : MapIs w mb L := by
  have := own_tight h
  rwa [size_map] at this
theorem keyedS : Keyed Tryd.prog 9 := string_keyed Tryd.underlying9
theorem zeroDoc (w : World) : (zeroValue 24).run Tryd.prog w = .ok (.agg #[.string ⟨#[]⟩, .int .i64 0, .string ⟨#[]⟩]) w := by kernel_rfl
def zeroD : DocL := ⟨[], 0, []⟩
def getL (L : List DocL) (n : List UInt8) : DocL := (findL L n).getD zeroD
theorem key_of (s : ByteArray) (h : s.size ≤ 140737488355328) : keyOf Tryd.prog 9 (.string s) = some (.string s.data.toList) := keyOf_string_mk Tryd.underlying9 (maxLen_of h)
theorem map_look {w : World} {mb : Nat} {L : List DocL} (h : MapIs w mb L) (s : ByteArray) (hs : s.size ≤ 140737488355328) :
    (Instr.lookup 50 (.map (some mb)) (.string s) true).run Tryd.prog w = .ok (.tuple #[(getL L s.data.toList).vv.val, .bool (hasL L s.data.toList)]) w := by
  obtain ⟨v, ps, hrun, hv⟩ := World.ownsMap.look_ok (t := 50) h keyedS Tryd.underlying50 (zeroDoc w) (zd := docD zeroD) (zp := []) rfl (key_of s hs)
  rw [has_map] at hrun
  rw [at_map] at hv
  have hv2 : docElem v = some (docD (getL L s.data.toList), ps) := by
    unfold getL
    cases hf : findL L s.data.toList with
    | none => rw [hf] at hv; exact hv
    | some d => rw [hf] at hv; exact hv
  rw [hrun, docElem_inv hv2]
theorem map_look1 {w : World} {mb : Nat} {L : List DocL} (h : MapIs w mb L) (s : ByteArray) (hs : s.size ≤ 140737488355328) :
    (Instr.lookup 50 (.map (some mb)) (.string s) false).run Tryd.prog w = .ok (getL L s.data.toList).vv.val w := by
  obtain ⟨v, ps, hrun, hv⟩ := World.ownsMap.lookup (t := 50) h keyedS Tryd.underlying50 (zeroDoc w) (zd := docD zeroD) (zp := []) rfl (key_of s hs)
  rw [at_map] at hv
  have hv2 : docElem v = some (docD (getL L s.data.toList), ps) := by
    unfold getL
    cases hf : findL L s.data.toList with
    | none => rw [hf] at hv; exact hv
    | some d => rw [hf] at hv; exact hv
  rw [hrun, docElem_inv hv2]
theorem map_len {w : World} {mb : Nat} {L : List DocL} (h : MapIs w mb L) (ty : TypeId) : (Builtin.len_ #[50] ty #[.map (some mb)]).run Tryd.prog w = .ok (.int .i64 (L.length : Nat)) w := by
  have := World.ownsMap.len (t := 50) h Tryd.underlying50 ty
  rwa [size_map] at this
theorem map_put {w : World} {mb : Nat} {L : List DocL} (h : MapIs w mb L) (d : DocV) (hs : d.n.size ≤ 140737488355328) (hL : L.length ≤ 140737488355328) :
    ∃ w', (Instr.mapUpdate 50 (.map (some mb)) (.string d.n) d.val).run Tryd.prog w = .ok () w' ∧ MapIs w' mb (insL d.l (dropL L d.l.n)) ∧ w.grownBy w' (some mb) := by
  obtain ⟨w', hrun, h1, h2⟩ := World.ownsMap.update (t := 50) h keyedS Tryd.underlying50 (by unfold maxLen; omega) (key_of d.n hs) (docElem_mk d)
  refine ⟨w', hrun, mapIs_of (n := L.length + 1) ?_, h2⟩
  have := put_map L d.l
  rw [← this]
  exact h1
theorem map_del {w : World} {mb : Nat} {L : List DocL} (h : MapIs w mb L) (s : ByteArray) (hs : s.size ≤ 140737488355328) (ty : TypeId) :
    ∃ w', (Builtin.delete_ #[50, 9] ty #[.map (some mb), .string s]).run Tryd.prog w = .ok (.tuple #[]) w' ∧ MapIs w' mb (dropL L s.data.toList) ∧ w.grownBy w' (some mb) := by
  obtain ⟨w', hrun, h1, h2⟩ := World.ownsMap.drop (t := 50) h keyedS Tryd.underlying50 (key_of s hs) ty
  rw [del_map] at h1
  exact ⟨w', hrun, mapIs_of h1, h2.grown⟩
theorem MapIs.lt {w : World} {mb : Nat} {L : List DocL} (h : MapIs w mb L) : mb < w.heap.size := World.ownsMap.lt h
theorem MapIs.kept {w w' : World} {mb : Nat} {row : Option Nat} {L : List DocL} (h : MapIs w mb L) (hg : w.grownBy w' row) (hne : some mb ≠ row) : MapIs w' mb L := World.ownsMap.kept h hg hne
/-- What a store's document may be. -/
structure DocOk (d : DocL) : Prop where
  n : d.n.length ≤ 40
  t : d.t.length ≤ 16384
/-- A store. -/
structure St (w : World) (b mb : Nat) (L : List DocL) : Prop where
  box : w.heap[b]? = some (.cells #[.map (some mb)] 52)
  map : MapIs w mb L
  rise : RiseL L
  len : L.length ≤ 8
  ok : ∀ d ∈ L, DocOk d
theorem below_grown {w w' : World} (h : Below w.heap.size w w') (row : Option Nat) : w.grownBy w' row := ⟨h.os, h.tape, h.output, h.size, fun k hk _ => h.block k hk⟩
theorem St.ne {w : World} {b mb : Nat} {L : List DocL} (h : St w b mb L) : b ≠ mb := by
  intro e
  obtain ⟨es, clock, hb, _⟩ := h.map
  rw [← e, h.box] at hb
  cases hb
theorem St.lt {w : World} {b mb : Nat} {L : List DocL} (h : St w b mb L) : b < w.heap.size := (Array.getElem?_eq_some_iff.1 h.box).1
theorem St.below {w w' : World} {b mb : Nat} {L : List DocL} (h : St w b mb L) (hb : Below w.heap.size w w') : St w' b mb L :=
  ⟨(hb.block b h.lt).trans h.box, h.map.kept (below_grown hb none) (by simp), h.rise, h.len, h.ok⟩
theorem St.cell {w : World} {b mb : Nat} {L : List DocL} (h : St w b mb L) : w.cell? ⟨b, 0, none⟩ = some (.map (some mb)) := by
  rw [cell_of_row _ _ 0 _ _ _ h.box]
  rfl
end Go.Proofs.YtcadfaecoldcpaaDoor
