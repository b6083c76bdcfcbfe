/-
  THE KEYS of a map of documents, sorted: the contracts of the shelf over slices.Sorted and maps.Keys at this program. Conditions: stated at each.
-/
import Derived.Test.YtcadfaecoldcpaaDoorShelfKeys
import Derived.Test.YtcadfaecoldcpaaDoorDo2
import Derived.Sort.KeysCollected
set_option linter.unusedVariables false
set_option linter.unusedSimpArgs false
namespace Go.Proofs.YtcadfaecoldcpaaDoor
open Go.RowKit Go.Lib Go.Shelf Go.Maps Go.Sort

theorem bb_lt : ∀ (a b : List UInt8), bytesBefore a b = true ↔ a < b
  | [], [] => by simp [bytesBefore]
  | [], y :: s => by simp [bytesBefore]
  | x :: r, [] => by simp [bytesBefore]
  | x :: r, y :: s => by
    rw [List.cons_lt_cons_iff, ← bb_lt r s]
    show (decide (x < y) || (x == y && bytesBefore r s)) = true ↔ _
    simp
theorem bb_le {a b : List UInt8} (h : bytesBefore a b = true) : leB a b = true := by
  refine decide_eq_true ?_
  show ¬ b < a
  rw [← bb_lt, bb_asymm h]
  simp
theorem names_sorted {L : List DocL} (h : RiseL L) : (L.map DocL.n).mergeSort leB = L.map DocL.n := by
  rw [rise_names] at h
  exact List.mergeSort_of_pairwise (h.imp fun h => bb_le h)
theorem strKeys_map (L : List DocL) : strKeys (mapD L) = L.map DocL.n := by
  unfold mapD strKeys
  simp only
  rw [List.map_map]
  rfl

theorem sortsK (m : Nat) : AnyZ.SortsIn Tryd.prog sortedL_ren Fence.wide m :=
  ⟨fun blk off cap ss W hH hblk hsz => callsIn_wide.2 (AnyM.slices_Sort_string sortL blk off cap ss W hH hblk hsz),
   fun p cap W => callsIn_wide.2 (AnyM.slices_Sort_string_none sortL p cap W)⟩
theorem keys_any (mb : Option Nat) (W : World) : Calls Tryd.prog 25 #[.map mb] W fun e w' => e = .returned (.func (.func 40) #[] #[.pointer (some ⟨W.heap.size, 0, none⟩)]) ∧ w' = W.alloc (.cells #[.map mb] 50) :=
  callsIn_wide.1 (AnyZ.keys_in keysL Fence.wide 5 trivial rfl mb W)
set_option maxHeartbeats 1000000 in
theorem sorted_in (b nn : Nat) (D0 : DataW Unit) (R : Value → Option (DataW Unit × List MemPlace)) (w : World) (hown : w.ownsMap Tryd.prog 9 R b nn D0) (hmax : Maps.size D0 ≤ maxLen) (hbytes : Maps.size D0 * 16 ≤ 140737488355328) :
    CallsIn Fence.wide 5 Tryd.prog 24 #[.func (.func 40) #[] #[.pointer (some ⟨w.heap.size, 0, none⟩)]] (w.alloc (.cells #[.map (some b)] 50)) fun e w' => ∃ (v : Value) (ss : List (List UInt8)), e = .returned v ∧ ss.Perm (strKeys D0) ∧
      w'.ownsRow (w.alloc (.cells #[.map (some b)] 50)).heap.size 9 1 v ss.length ((ss.mergeSort (fun x y => decide (x ≤ y))).map encStr) ∧ (v = .slice none 0 0 ↔ ss = []) ∧ Below (w.alloc (.cells #[.map (some b)] 50)).heap.size (w.alloc (.cells #[.map (some b)] 50)) w' := by
  have hbl := hown.lt
  have hseq : SeqGives Fence.wide 2 Tryd.prog 40 #[.pointer (some ⟨w.heap.size, 0, none⟩)] encStr (fun ss => ss.Perm (strKeys D0)) (Maps.size D0) (w.alloc (.cells #[.map (some b)] 50)) :=
    AnyZ.keys_gives (ρ := keysL_ren) { keysL with } Fence.wide _ trivial rfl (by omega) w.heap.size b nn D0 _ (by simp) (by simp) (by
      obtain ⟨es, clock, hb, Ft, hs, hD⟩ := hown
      exact ⟨es, clock, (Below.heap_alloc _ _ b hbl).trans hb, Ft, hs, hD⟩)
  exact AnyZ.sorted_in sortedL Fence.wide 5 trivial trivial trivial trivial rfl (by omega) (sortsK _) (enters_of Tryd.func39 (by kernel_rfl) rfl) 40 #[.pointer (some ⟨w.heap.size, 0, none⟩)] trivial (enters_of Tryd.func40 (by kernel_rfl) rfl) _ _ hmax hbytes _ hseq
/-- The names of all documents, rising. -/
def nameB (L : List DocL) : List ByteArray := L.map fun d => d.vv.n
def KeysPost (L : List DocL) (W : World) (e : Ending) (w' : World) : Prop := ∃ A c, e = .returned (.slice A L.length c) ∧ RdS w' A (nameB L) ∧ Below W.heap.size W w'
theorem sorted_any (mb : Nat) (L : List DocL) (w : World) (h : MapIs w mb L) (hr : RiseL L) (hL : L.length ≤ 8) :
    Calls Tryd.prog 24 #[.func (.func 40) #[] #[.pointer (some ⟨w.heap.size, 0, none⟩)]] (w.alloc (.cells #[.map (some mb)] 50)) (KeysPost L (w.alloc (.cells #[.map (some mb)] 50))) := by
  have c := callsIn_wide.1 (sorted_in mb L.length (mapD L) docElem w h (by rw [size_map]; unfold maxLen; omega) (by rw [size_map]; omega))
  refine c.mono ?_
  rintro e w' ⟨v, ss, rfl, hp, hrow, hnil, hb⟩
  rw [strKeys_map] at hp
  have hl : ss.length = L.length := by rw [hp.length_eq, List.length_map]
  have hs : ss.mergeSort (fun x y => decide (x ≤ y)) = L.map DocL.n := (mergeSort_of_perm hp).trans (names_sorted hr)
  rw [hs, hl] at hrow
  have e1 : (L.map DocL.n).map encStr = (nameB L).map Value.string := by
    unfold nameB
    rw [List.map_map, List.map_map]
    rfl
  rw [e1] at hrow
  have hl2 : (nameB L).length = L.length := by unfold nameB; rw [List.length_map]
  by_cases h0 : L.length = 0
  · have hss : ss = [] := List.length_eq_zero_iff.1 (hl.trans h0)
    obtain rfl := hnil.2 hss
    refine ⟨none, 0, by rw [h0], ?_, hb⟩
    have : nameB L = [] := List.length_eq_zero_iff.1 (hl2.trans h0)
    rw [this]
    exact Rd.nil
  · obtain ⟨g, cap, hv, _, _⟩ := World.ownsRow.form hrow (by omega)
    subst hv
    refine ⟨_, _, rfl, ?_, hb⟩
    have := Rd.of_own hrow
    rw [← hl2] at this
    exact this
end Go.Proofs.YtcadfaecoldcpaaDoor
