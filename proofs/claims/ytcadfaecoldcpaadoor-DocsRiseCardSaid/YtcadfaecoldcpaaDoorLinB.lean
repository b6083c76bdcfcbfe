/-
  THE WALKS of package lines: Line, of a line that there is; the search among where lines begin. Conditions: stated at each.
-/
import Derived.Test.YtcadfaecoldcpaaDoorLinA
import Derived.Test.YtcadfaecoldcpaaDoorShelfCut
import Derived.Test.YtcadfaecoldcpaaDoorShelfBs
import Derived.Deep.QuietTactic
import Derived.BigQuiet
set_option linter.unusedVariables false
set_option linter.unusedSimpArgs false
namespace Go.Proofs.YtcadfaecoldcpaaDoor
open Go.RowKit Go.Lib Go.Shelf

theorem index10 : ∀ l : List UInt8, Lib.index l [10] = if (restOf l).isSome then ((lineOf l).length : Int) else -1 := by
  intro l
  induction l with
  | nil => simp [Lib.index, restOf]
  | cons c t ih =>
    unfold Lib.index
    by_cases h : c = 10
    · subst h
      simp [restOf, lineOf]
    · have h1 : ([10] : List UInt8).isPrefixOf (c :: t) = false := by
        simp [List.isPrefixOf]
        exact fun h2 => h h2.symm
      rw [h1]
      simp only [Bool.false_eq_true, if_false, ih, restOf, lineOf, if_neg h]
      by_cases hr : (restOf t).isSome
      · simp only [hr, if_true, List.length_cons]
        have : ¬ (((lineOf t).length : Int) == -1) = true := by simp
        rw [if_neg this]
        omega
      · simp [hr]
theorem cut10 (l : List UInt8) : (Lib.cut l [10]).1 = lineOf l := by
  unfold Lib.cut
  rw [index10]
  by_cases hr : (restOf l).isSome
  · rw [if_pos hr, if_pos (Int.natCast_nonneg _), Int.toNat_natCast]
    have := line_split l
    show l.take _ = _
    rw [congrArg (List.take (lineOf l).length) this, List.take_append_of_le_length (Nat.le_refl _), List.take_of_length_le (Nat.le_refl _)]
  · rw [if_neg hr, if_neg (by decide)]
    have hn : restOf l = none := by simpa using hr
    exact (restOf_none hn).symm
/-- A line's bytes. -/
def lineB (s : ByteArray) (n : Nat) : ByteArray := ⟨(lineN s.data.toList n).toArray⟩
theorem lineB_data (s : ByteArray) (n : Nat) : (lineB s n).data.toList = lineN s.data.toList n := by simp [lineB]
set_option maxRecDepth 100000 in
theorem cut_any (s : ByteArray) (w : World) (m : Int) (hs : s.size ≤ 16777216) (hm : w.cell? ⟨2, 0, none⟩ = some (.int .i64 m)) :
    Calls Tryd.prog 78 #[.string s, .string ⟨#[10]⟩] w (fun e w' => e = .returned (.tuple #[.string ⟨(lineOf s.data.toList).toArray⟩, .string ⟨(Lib.cut s.data.toList [10]).2.1.toArray⟩, .bool (Lib.cut s.data.toList [10]).2.2]) ∧ ∃ n, w' = w.drewN n) := by
  refine Calls.mono (Any.strings_Cut laysCut s ⟨#[10]⟩ m w (by omega) hm) ?_
  rintro e w' ⟨he, hn⟩
  rw [show (⟨#[10]⟩ : ByteArray).data.toList = [10] from rfl, cut10] at he
  exact ⟨he, hn⟩

set_option maxRecDepth 100000 in
theorem linLine_right (b : Nat) (s : ByteArray) (n : Nat) (w : World) (hs : s.size ≤ 16777216) (hx : Ix w b s) (hE : Env w) (hn : n < nLines s.data.toList) :
    Calls Tryd.prog 74 #[.pointer (some ⟨b, 0, none⟩), .int .i64 n] w (fun e w' => e = .returned (.tuple #[.string (lineB s n), .int .i64 0]) ∧ Below w.heap.size w w') := by
  obtain ⟨hb, g, c, h0, h1, h2⟩ := hx
  have hl : (startsL s.data.toList).length = nLines s.data.toList := starts_length _
  have h3 := h2.cell0 (k := n) (by omega)
  obtain ⟨h4, h5⟩ := lineN_at s.data.toList hn
  rw [← size_eq] at h5
  obtain ⟨a, ha⟩ : ∃ a, a = startN s.data.toList n := ⟨_, rfl⟩
  rw [show (startsL s.data.toList).getD n 0 = a from ha.symm] at h3
  rw [← ha] at h4 h5
  rw [hl] at h1
  obtain ⟨N, hN⟩ : ∃ N, N = nLines s.data.toList := ⟨_, rfl⟩
  rw [← hN] at hn h1
  have hlt : (n : Int) < (N : Int) := by omega
  have hge : decide ((N : Int) ≤ (n : Int)) = false := decide_eq_false (by omega)
  have haz : (a : Int) ≤ (s.size : Int) := by omega
  have H4 := Lib.hid h4
  have H2 := Lib.hid h2
  obtain ⟨m, hm⟩ := hE.2
  have cC : ∀ q, _ := fun q => cut_any (s.extract a s.size) (w.drewN q) m (by rw [ext_size]; omega) hm
  have eL : (⟨(lineOf (s.extract a s.size).data.toList).toArray⟩ : ByteArray) = lineB s n := by
    unfold lineB
    rw [h4, ext_take]
  rw [eL] at cC
  generalize (⟨(Lib.cut (s.extract a s.size).data.toList [10]).2.1.toArray⟩ : ByteArray) = Y at cC
  generalize (Lib.cut (s.extract a s.size).data.toList [10]).2.2 = Z at cC
  have HC := Lib.hid cC
  clear eL
  clear h4 h2 hE cC ha hN hl
  go_enter Tryd.func74, Tryd.ntmps74
  go_wp2_with fail
  go_quiet (first | (go_at_call 78; refine Calls.quiet_of (HC.out _)))
  go_wp2
  go_ret2
  exact ⟨rfl, ⟨rfl, rfl, rfl, Nat.le_refl _, fun _ _ => rfl⟩⟩
end Go.Proofs.YtcadfaecoldcpaaDoor
