/-
  THE WALKS of the function values of edits.Between: the bytes at a place, from the beginning, from the end; how many are one. Conditions: stated at each.
-/
import Derived.Test.YtadkjeefiacdbaaDoorEdC
import Derived.Test.YtadkjeefiacdbaaDoorEd2
import Derived.Deep.QuietTactic
import Derived.BigQuiet
set_option linter.unusedVariables false
set_option linter.unusedSimpArgs false
namespace Go.Proofs.YtadkjeefiacdbaaDoor
open Go.RowKit Go.Lib Go.Shelf

set_option maxRecDepth 100000 in
theorem edAt1_any (a b : ByteArray) (ga gb k : Nat) (w : World) (hka : k < a.size) (hkb : k < b.size) (has : a.size ≤ 4194304) (hbs : b.size ≤ 4194304) (ha : w.cell? ⟨ga, 0, none⟩ = some (.string a)) (hb : w.cell? ⟨gb, 0, none⟩ = some (.string b)) :
    Calls Tryd.prog 41 #[.int .i64 (k : Nat), .pointer (some ⟨ga, 0, none⟩), .pointer (some ⟨gb, 0, none⟩)] w (fun e w' => e = .returned (.tuple #[.int .u8 (by_ a.data.toList k : Nat), .int .u8 (by_ b.data.toList k : Nat)]) ∧ Below w.heap.size w w') := by
  rw [by_get a k hka, by_get b k hkb]
  go_enter Tryd.func41, Tryd.ntmps41
  go_wp2
  go_quiet (fail)
  go_wp2
  go_ret2
  exact ⟨rfl, (Below.refl w.heap.size w).trans ⟨rfl, rfl, rfl, Nat.le_refl _, fun _ _ => rfl⟩⟩

set_option maxRecDepth 100000 in
theorem edAt2_any (a b : ByteArray) (ga gb k : Nat) (w : World) (hka : k < a.size) (hkb : k < b.size) (has : a.size ≤ 4194304) (hbs : b.size ≤ 4194304) (ha : w.cell? ⟨ga, 0, none⟩ = some (.string a)) (hb : w.cell? ⟨gb, 0, none⟩ = some (.string b)) :
    Calls Tryd.prog 43 #[.int .i64 (k : Nat), .pointer (some ⟨ga, 0, none⟩), .pointer (some ⟨gb, 0, none⟩)] w (fun e w' => e = .returned (.tuple #[.int .u8 (by_ a.data.toList (a.size - 1 - k) : Nat), .int .u8 (by_ b.data.toList (b.size - 1 - k) : Nat)]) ∧ Below w.heap.size w w') := by
  have e1 : (a.size : Int) - 1 - (k : Int) = ((a.size - 1 - k : Nat) : Int) := by omega
  have e2 : (b.size : Int) - 1 - (k : Int) = ((b.size - 1 - k : Nat) : Int) := by omega
  have h1 : a.size - 1 - k < a.size := by omega
  have h2 : b.size - 1 - k < b.size := by omega
  have w1 : IntKind.i64.wrap ((a.size : Int) - 1) = (a.size : Int) - 1 := by rw [IntKind.wrap_i64]; omega
  have w2 : IntKind.i64.wrap ((a.size : Int) - 1 - (k : Int)) = ((a.size - 1 - k : Nat) : Int) := by rw [e1]; rw [IntKind.wrap_i64]; omega
  have w3 : IntKind.i64.wrap ((b.size : Int) - 1) = (b.size : Int) - 1 := by rw [IntKind.wrap_i64]; omega
  have w4 : IntKind.i64.wrap ((b.size : Int) - 1 - (k : Int)) = ((b.size - 1 - k : Nat) : Int) := by rw [e2]; rw [IntKind.wrap_i64]; omega
  rw [by_get a _ h1, by_get b _ h2]
  go_enter Tryd.func43, Tryd.ntmps43
  go_wp2
  go_quiet (fail)
  go_wp2
  go_ret2
  exact ⟨rfl, (Below.refl w.heap.size w).trans ⟨rfl, rfl, rfl, Nat.le_refl _, fun _ _ => rfl⟩⟩

/-- How many are one, of at most so many. -/
def CountOk (x y : Nat → Nat) (m c : Nat) : Prop := c ≤ m ∧ (∀ k, k < c → x k = y k) ∧ (c = m ∨ x c ≠ y c)
def CountPost (x y : Nat → Nat) (m : Nat) (w : World) (e : Ending) (w' : World) : Prop := ∃ c : Nat, e = .returned (.int .i64 (c : Nat)) ∧ CountOk x y m c ∧ Below w.heap.size w w'

set_option maxRecDepth 100000 in
set_option maxHeartbeats 1000000 in
theorem edCount1_any (a b : ByteArray) (ga gb m : Nat) (w : World) (hma : m ≤ a.size) (hmb : m ≤ b.size) (has : a.size ≤ 4194304) (hbs : b.size ≤ 4194304) (hla : ga < w.heap.size) (hlb : gb < w.heap.size) (ha : w.cell? ⟨ga, 0, none⟩ = some (.string a)) (hb : w.cell? ⟨gb, 0, none⟩ = some (.string b)) :
    Calls Tryd.prog 40 #[.int .i64 (m : Nat), .func (.func 41) #[] #[.pointer (some ⟨ga, 0, none⟩), .pointer (some ⟨gb, 0, none⟩)]] w (CountPost (fun k => by_ a.data.toList k) (fun k => by_ b.data.toList k) m w) := by
  have cA : ∀ k, k < m → ∀ w', Below w.heap.size w w' → _ := fun k hk w' hb' => edAt1_any a b ga gb k w' (by omega) (by omega) has hbs ((hb'.cell (p := ⟨ga, 0, none⟩) hla).trans ha) ((hb'.cell (p := ⟨gb, 0, none⟩) hlb).trans hb)
  have hx : ∃ x : Nat → Nat, x = fun k => by_ a.data.toList k := ⟨_, rfl⟩
  have hy : ∃ y : Nat → Nat, y = fun k => by_ b.data.toList k := ⟨_, rfl⟩
  obtain ⟨x, hx⟩ := hx
  obtain ⟨y, hy⟩ := hy
  have cB : ∀ k, k < m → ∀ w', Below w.heap.size w w' → Calls Tryd.prog 41 #[.int .i64 (k : Nat), .pointer (some ⟨ga, 0, none⟩), .pointer (some ⟨gb, 0, none⟩)] w' (fun e w'' => e = .returned (.tuple #[.int .u8 (x k : Nat), .int .u8 (y k : Nat)]) ∧ Below w'.heap.size w' w'') := by
    rw [hx, hy]
    exact cA
  rw [← hx, ← hy]
  have HB := Lib.hid cB
  clear cA cB hx hy ha hb hla hlb
  go_enter Tryd.func40, Tryd.ntmps40
  go_wp2
  go_loopw [5] (fun v wr => ∃ k : Nat, v = .int .i64 k ∧ k ≤ m ∧ Below w.heap.size w wr ∧ Hid (∀ j, j < k → x j = y j)) (fun v _ => m - (RowKit.intOf v).toNat)
  case atStart => exact ⟨0, rfl, Nat.zero_le _, Below.refl _ _, fun j hj => absurd hj (Nat.not_lt_zero j)⟩
  case round =>
    obtain ⟨k, rfl, hk, hbr, hsame⟩ := hrel
    by_cases hlt : k < m
    · have cC := HB.out k hlt wr hbr
      by_cases hne : x k = y k
      · rw [← hne] at cC
        have HN := Lib.hid hne
        clear hne
        go_wp2_with (go_at_call 41; refine cC.mono ?_; rintro e w1 ⟨rfl, hb1⟩)
        go_roundw
        case rel => exact ⟨k + 1, by go_num, by omega, bth hbr hb1, fun j hj => by
          by_cases hjk : j = k
          · rw [hjk]; exact HN.out
          · exact hsame j (by omega)⟩
        case measure => simp [RowKit.intOf]; omega
      · have hne' : ((x k : Int) == (y k : Int)) = false := by
          rw [beq_eq_false_iff_ne]
          omega
        have HN := Lib.hid hne
        clear hne
        go_wp2_with (go_at_call 41; refine cC.mono ?_; rintro e w1 ⟨rfl, hb1⟩)
        go_ret
        exact ⟨k, rfl, ⟨hk, hsame, .inr HN.out⟩, bth hbr hb1⟩
    · have he : k = m := by omega
      go_wp2
      go_ret
      exact ⟨k, rfl, ⟨hk, hsame, .inl he⟩, hbr⟩

set_option maxRecDepth 100000 in
set_option maxHeartbeats 1000000 in
theorem edCount2_any (a b : ByteArray) (ga gb m : Nat) (w : World) (hma : m ≤ a.size) (hmb : m ≤ b.size) (has : a.size ≤ 4194304) (hbs : b.size ≤ 4194304) (hla : ga < w.heap.size) (hlb : gb < w.heap.size) (ha : w.cell? ⟨ga, 0, none⟩ = some (.string a)) (hb : w.cell? ⟨gb, 0, none⟩ = some (.string b)) :
    Calls Tryd.prog 40 #[.int .i64 (m : Nat), .func (.func 43) #[] #[.pointer (some ⟨ga, 0, none⟩), .pointer (some ⟨gb, 0, none⟩)]] w (CountPost (fun k => by_ a.data.toList (a.size - 1 - k)) (fun k => by_ b.data.toList (b.size - 1 - k)) m w) := by
  have cA : ∀ k, k < m → ∀ w', Below w.heap.size w w' → _ := fun k hk w' hb' => edAt2_any a b ga gb k w' (by omega) (by omega) has hbs ((hb'.cell (p := ⟨ga, 0, none⟩) hla).trans ha) ((hb'.cell (p := ⟨gb, 0, none⟩) hlb).trans hb)
  have hx : ∃ x : Nat → Nat, x = fun k => by_ a.data.toList (a.size - 1 - k) := ⟨_, rfl⟩
  have hy : ∃ y : Nat → Nat, y = fun k => by_ b.data.toList (b.size - 1 - k) := ⟨_, rfl⟩
  obtain ⟨x, hx⟩ := hx
  obtain ⟨y, hy⟩ := hy
  have cB : ∀ k, k < m → ∀ w', Below w.heap.size w w' → Calls Tryd.prog 43 #[.int .i64 (k : Nat), .pointer (some ⟨ga, 0, none⟩), .pointer (some ⟨gb, 0, none⟩)] w' (fun e w'' => e = .returned (.tuple #[.int .u8 (x k : Nat), .int .u8 (y k : Nat)]) ∧ Below w'.heap.size w' w'') := by
    rw [hx, hy]
    exact cA
  rw [← hx, ← hy]
  have HB := Lib.hid cB
  clear cA cB hx hy ha hb hla hlb
  go_enter Tryd.func40, Tryd.ntmps40
  go_wp2
  go_loopw [5] (fun v wr => ∃ k : Nat, v = .int .i64 k ∧ k ≤ m ∧ Below w.heap.size w wr ∧ Hid (∀ j, j < k → x j = y j)) (fun v _ => m - (RowKit.intOf v).toNat)
  case atStart => exact ⟨0, rfl, Nat.zero_le _, Below.refl _ _, fun j hj => absurd hj (Nat.not_lt_zero j)⟩
  case round =>
    obtain ⟨k, rfl, hk, hbr, hsame⟩ := hrel
    by_cases hlt : k < m
    · have cC := HB.out k hlt wr hbr
      by_cases hne : x k = y k
      · rw [← hne] at cC
        have HN := Lib.hid hne
        clear hne
        go_wp2_with (go_at_call 43; refine cC.mono ?_; rintro e w1 ⟨rfl, hb1⟩)
        go_roundw
        case rel => exact ⟨k + 1, by go_num, by omega, bth hbr hb1, fun j hj => by
          by_cases hjk : j = k
          · rw [hjk]; exact HN.out
          · exact hsame j (by omega)⟩
        case measure => simp [RowKit.intOf]; omega
      · have hne' : ((x k : Int) == (y k : Int)) = false := by
          rw [beq_eq_false_iff_ne]
          omega
        have HN := Lib.hid hne
        clear hne
        go_wp2_with (go_at_call 43; refine cC.mono ?_; rintro e w1 ⟨rfl, hb1⟩)
        go_ret
        exact ⟨k, rfl, ⟨hk, hsame, .inr HN.out⟩, bth hbr hb1⟩
    · have he : k = m := by omega
      go_wp2
      go_ret
      exact ⟨k, rfl, ⟨hk, hsame, .inl he⟩, hbr⟩
end Go.Proofs.YtadkjeefiacdbaaDoor
