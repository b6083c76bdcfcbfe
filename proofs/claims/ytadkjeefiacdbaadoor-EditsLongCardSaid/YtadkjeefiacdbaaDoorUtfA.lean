/-
  THE WALKS of package utf: units, count, Right, Units, Offset, Unit, Cut. Conditions: the library's two tables lie as its text lays them; texts of at most 2^47 bytes.
-/
import Derived.Test.YtadkjeefiacdbaaDoorUtfRefD0
import Derived.Test.YtadkjeefiacdbaaDoorShelfValid
import Derived.Laws.RangeAny
import Derived.Laws.RangeString
set_option linter.unusedVariables false
set_option linter.unusedSimpArgs false
namespace Go.Proofs.YtadkjeefiacdbaaDoor
open Go.RowKit Go.Lib Go.Shelf

def Tabs (w : World) : Prop := Lib.Utf8Tabs 0 1 w
theorem Tabs.below {w w' : World} (h : Tabs w) (hb : Below w.heap.size w w') : Tabs w' := Utf8Tabs_below h hb

theorem right_any (s : ByteArray) (w : World) (hs : s.size ≤ 9223372036854775807) (hT : Tabs w) :
    Calls Tryd.prog 31 #[.string s] w (BoolPost (validD s.data.toList) w) := by
  have c : Calls Tryd.prog 47 #[.string s] w (BoolPost (validD s.data.toList) w) := Any.utf8_ValidString laysValid s w hs hT
  generalize validD s.data.toList = V at c ⊢
  go_enter Tryd.func31, Tryd.ntmps31
  go_wp2_with (go_at_call 47; refine c.mono ?_; rintro e w1 ⟨rfl, hb⟩)
  go_ret
  exact ⟨rfl, hb⟩

set_option maxRecDepth 100000 in
theorem runeStart_bits : ∀ X : Fin 256, (bits .and .u8 ((X.val : Nat) : Int) 192 != 128) = !(X.val / 64 == 2) := by decide
theorem runeStart_any (b : UInt8) (w : World) :
    Calls Tryd.prog 42 #[.int .u8 (b.toNat : Nat)] w fun e w' => e = .returned (.bool (!contB b)) ∧ w = w' := by
  have h := runeStart_bits ⟨b.toNat, UInt8.toNat_lt _⟩
  have H : Hid ((bits .and .u8 ((b.toNat : Nat) : Int) 192 != 128) = !contB b) := h
  clear h
  go_enter Tryd.func42, Tryd.ntmps42
  go_wp2
  go_ret
  exact ⟨ret_bool' H.out, rfl⟩

set_option maxRecDepth 100000 in
theorem units_any (r : Nat) (w : World) :
    Calls Tryd.prog 49 #[.int .i32 (r : Nat)] w fun e w' => e = .returned (.int .i64 (unsOf r : Nat)) ∧ w = w' := by
  by_cases h : 65536 ≤ r
  · have H : Hid (unsOf r = 2) := if_pos h
    have hz : (65536 : Int) ≤ (r : Int) := by omega
    go_enter Tryd.func49, Tryd.ntmps49
    go_wp2
    go_ret
    exact ⟨ret_int' (by rw [H.out]; rfl), rfl⟩
  · have H : Hid (unsOf r = 1) := if_neg h
    have hz : decide ((65536 : Int) ≤ (r : Int)) = false := decide_eq_false (by omega)
    clear h
    go_enter Tryd.func49, Tryd.ntmps49
    go_wp2
    go_ret
    exact ⟨ret_int' (by rw [H.out]; rfl), rfl⟩

theorem decode_drop (s : ByteArray) (pos : Nat) : Utf8.decode s pos = decodeL (s.data.toList.drop pos) := (decodeL_drop s pos).symm
theorem below_iter (w : World) (s : ByteArray) (pos : Nat) : Below w.heap.size w (w.iter s pos) := (Below.refl _ _).alloc (Nat.le_refl _) _

set_option maxRecDepth 100000 in
set_option maxHeartbeats 400000 in
theorem count_any (s : ByteArray) (w : World) (hs : s.size ≤ 140737488355328) :
    Calls Tryd.prog 53 #[.string s] w fun e w' => e = .returned (.int .i64 (unitsL s.data.toList : Nat)) ∧ Below w.heap.size w w' := by
  have hl : s.data.toList.length = s.size := (size_eq s).symm
  obtain ⟨l, hll⟩ : ∃ l, l = s.data.toList := ⟨_, rfl⟩
  have hdec : ∀ pos, Utf8.decode s pos = decodeL (l.drop pos) := fun pos => by rw [hll]; exact decode_drop s pos
  rw [← hll] at hl ⊢
  have HL := Lib.hid hl
  have HD := Lib.hid hdec
  clear hl hll hdec
  go_enter Tryd.func53, Tryd.ntmps53
  go_wp2
  go_loopw [3] (fun n w' => ∃ (pos a : Nat), w' = w.iter s pos ∧ n = .int .i64 a ∧ a + unitsL (l.drop pos) = unitsL l ∧ pos ≤ s.size ∧ a ≤ 2 * pos) (fun _ w' => s.size - w'.iterPos w.heap.size)
  case atStart => exact ⟨0, 0, rfl, rfl, by simp, by omega, by omega⟩
  case round =>
    obtain ⟨pos, a, rfl, rfl, hc, hp, ha⟩ := hrel
    have HC := Lib.hid hc
    clear hc
    by_cases hlt : pos < s.size
    · have hnx : ∀ ty, (Instr.next (.pointer (some ⟨w.heap.size, 0, none⟩)) true ty).run Tryd.prog (w.iter s pos) = _ := fun ty => run_next_any w s pos ty hlt
      rw [HD.out pos] at hnx
      have hne : l.drop pos ≠ [] := drop_ne (by rw [HL.out]; exact hlt)
      have hst := unitsL_step _ hne
      have hw := decodeL_width (l.drop pos)
      have hle := decodeL_le _ hne
      rw [List.length_drop, HL.out] at hle
      rw [List.drop_drop] at hst
      obtain ⟨c, hcc⟩ : ∃ c, c = (decodeL (l.drop pos)).1 := ⟨_, rfl⟩
      obtain ⟨n, hn⟩ : ∃ n, n = (decodeL (l.drop pos)).2 := ⟨_, rfl⟩
      rw [← hcc] at hst hnx
      rw [← hn] at hst hnx hw hle
      have hu := uns_pos c
      have cU := units_any c (w.iter s (pos + n))
      obtain ⟨u, huu⟩ : ∃ u, u = unsOf c := ⟨_, rfl⟩
      rw [← huu] at hst hu cU
      have HS := Lib.hid hst
      clear hne hcc hn huu hst
      go_wp2_with (go_at_call 49; refine cU.mono ?_; rintro e w1 ⟨rfl, rfl⟩)
      go_roundw
      case rel => exact ⟨pos + n, a + u, rfl, by go_num, by have h1 := HC.out; have h2 := HS.out; omega, by omega, by omega⟩
      case measure => simp; omega
    · have hnx : ∀ ty, (Instr.next (.pointer (some ⟨w.heap.size, 0, none⟩)) true ty).run Tryd.prog (w.iter s pos) = _ := fun ty => run_next_end w s pos ty hlt
      have hd : l.drop pos = [] := List.drop_eq_nil_of_le (by rw [HL.out]; omega)
      have HE : Hid (a = unitsL l) := by
        show _ = _
        have := HC.out
        rw [hd, unitsL_nil] at this
        omega
      clear hd hlt
      go_wp2
      go_ret
      exact ⟨ret_int' (by rw [HE.out]), below_iter _ _ _⟩

end Go.Proofs.YtadkjeefiacdbaaDoor
