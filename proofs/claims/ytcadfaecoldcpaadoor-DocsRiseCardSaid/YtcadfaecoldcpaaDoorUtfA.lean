/-
  THE WALKS of package utf: units, count, Right, Units, Offset, Unit, Cut. Conditions: the library's two tables lie as its text lays them; texts of at most 2^47 bytes.
-/
import Derived.Test.YtcadfaecoldcpaaDoorUtfRefD0
import Derived.Test.YtcadfaecoldcpaaDoorShelfValid
import Derived.Laws.RangeAny
import Derived.Laws.RangeString
set_option linter.unusedVariables false
set_option linter.unusedSimpArgs false
namespace Go.Proofs.YtcadfaecoldcpaaDoor
open Go.RowKit Go.Lib Go.Shelf

def Tabs (w : World) : Prop := Lib.Utf8Tabs 0 1 w
theorem Tabs.below {w w' : World} (h : Tabs w) (hb : Below w.heap.size w w') : Tabs w' := Utf8Tabs_below h hb

set_option maxRecDepth 100000 in
theorem right_any (s : ByteArray) (w : World) (hs : s.size ≤ 9223372036854775807) (hT : Tabs w) :
    Calls Tryd.prog 41 #[.string s] w (BoolPost (validD s.data.toList) w) := by
  have c : Calls Tryd.prog 48 #[.string s] w (BoolPost (validD s.data.toList) w) := Any.utf8_ValidString laysValid s w hs hT
  generalize validD s.data.toList = V at c ⊢
  go_enter Tryd.func41, Tryd.ntmps41
  go_wp2_with (go_at_call 48; refine c.mono ?_; rintro e w1 ⟨rfl, hb⟩)
  go_ret
  exact ⟨rfl, hb⟩

set_option maxRecDepth 100000 in
theorem runeStart_bits : ∀ X : Fin 256, (bits .and .u8 ((X.val : Nat) : Int) 192 != 128) = !(X.val / 64 == 2) := by decide
set_option maxRecDepth 100000 in
theorem units_any (r : Nat) (w : World) :
    Calls Tryd.prog 79 #[.int .i32 (r : Nat)] w fun e w' => e = .returned (.int .i64 (unsOf r : Nat)) ∧ w = w' := by
  by_cases h : 65536 ≤ r
  · have H : Hid (unsOf r = 2) := if_pos h
    have hz : (65536 : Int) ≤ (r : Int) := by omega
    go_enter Tryd.func79, Tryd.ntmps79
    go_wp2
    go_ret
    exact ⟨ret_int' (by rw [H.out]; rfl), rfl⟩
  · have H : Hid (unsOf r = 1) := if_neg h
    have hz : decide ((65536 : Int) ≤ (r : Int)) = false := decide_eq_false (by omega)
    clear h
    go_enter Tryd.func79, Tryd.ntmps79
    go_wp2
    go_ret
    exact ⟨ret_int' (by rw [H.out]; rfl), rfl⟩

theorem decode_drop (s : ByteArray) (pos : Nat) : Utf8.decode s pos = decodeL (s.data.toList.drop pos) := (decodeL_drop s pos).symm
theorem below_iter (w : World) (s : ByteArray) (pos : Nat) : Below w.heap.size w (w.iter s pos) := (Below.refl _ _).alloc (Nat.le_refl _) _

end Go.Proofs.YtcadfaecoldcpaaDoor
