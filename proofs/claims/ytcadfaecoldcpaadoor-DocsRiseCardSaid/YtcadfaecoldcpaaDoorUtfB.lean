/-
  THE WALKS of package utf: Offset, Unit, Cut. Conditions: the library's two tables lie as its text lays them; texts of at most 2^47 bytes.
-/
import Derived.Test.YtcadfaecoldcpaaDoorUtfA
set_option linter.unusedVariables false
set_option linter.unusedSimpArgs false
namespace Go.Proofs.YtcadfaecoldcpaaDoor
open Go.RowKit Go.Lib Go.Shelf

set_option maxRecDepth 100000 in
set_option maxHeartbeats 400000 in
theorem utfOffset_any (s : ByteArray) (unit : Int) (w : World) (hs : s.size ≤ 140737488355328) (hu0 : unit ≤ 9223372036854775807) (hT : Tabs w) :
    Calls Tryd.prog 75 #[.string s, .int .i64 unit] w (Post2 (offRes s.data.toList unit) w) := by
  have cR := right_any s w (by omega) hT
  have hl : s.data.toList.length = s.size := (size_eq s).symm
  obtain ⟨l, hll⟩ : ∃ l, l = s.data.toList := ⟨_, rfl⟩
  have hdec : ∀ pos, Utf8.decode s pos = decodeL (l.drop pos) := fun pos => by rw [hll]; exact decode_drop s pos
  rw [← hll] at hl cR ⊢
  have HL := Lib.hid hl
  have HD := Lib.hid hdec
  clear hl hll hdec
  by_cases hv : validD l = true
  · rw [hv] at cR
    have HRES : Hid (offRes l unit = match offL l unit with | some k => (k, 0) | none => (0, 12)) := if_pos hv
    clear hv
    go_enter Tryd.func75, Tryd.ntmps75
    go_wp2_with (go_at_call 41; refine cR.mono ?_; rintro e w1 ⟨rfl, hb1⟩)
    go_loopw [1] (fun u w' => ∃ (pos : Nat) (x : Int), w' = w1.iter s pos ∧ u = .int .i64 x ∧ offS pos x (scals (l.drop pos)) = offL l unit ∧ pos ≤ s.size ∧ x ≤ 9223372036854775807) (fun _ w' => s.size - w'.iterPos w1.heap.size)
    case atStart => exact ⟨0, unit, rfl, rfl, rfl, by omega, hu0⟩
    case round =>
      obtain ⟨pos, x, rfl, rfl, hc, hp, hxb⟩ := hrel
      have HC := Lib.hid hc
      have hbel : Below w.heap.size w (w1.iter s pos) := hb1.trans ((below_iter w1 s pos).mono hb1.size)
      clear hc
      by_cases hlt : pos < s.size
      · have hnx : ∀ ty, (Instr.next (.pointer (some ⟨w1.heap.size, 0, none⟩)) true ty).run Tryd.prog (w1.iter s pos) = _ := fun ty => run_next_any w1 s pos ty hlt
        rw [HD.out pos] at hnx
        have hne : l.drop pos ≠ [] := drop_ne (by rw [HL.out]; exact hlt)
        have hst := scals_step _ hne
        have hw := decodeL_width (l.drop pos)
        have hle := decodeL_le _ hne
        rw [List.length_drop, HL.out] at hle
        rw [List.drop_drop] at hst
        obtain ⟨c, hcc⟩ : ∃ c, c = (decodeL (l.drop pos)).1 := ⟨_, rfl⟩
        obtain ⟨n, hn⟩ : ∃ n, n = (decodeL (l.drop pos)).2 := ⟨_, rfl⟩
        rw [← hcc] at hst hnx
        rw [← hn] at hst hnx hw hle
        have hu := uns_pos c
        have cU := units_any c (w1.iter s (pos + n))
        have hbel2 : Below w.heap.size w (w1.iter s (pos + n)) := hb1.trans ((below_iter w1 s _).mono hb1.size)
        obtain ⟨u, huu⟩ : ∃ u, u = unsOf c := ⟨_, rfl⟩
        rw [← huu] at hst hu cU
        have hoff := HC.out
        rw [hst] at hoff
        have hoff2 : (if x ≤ 0 then (if x < 0 then none else some pos) else offS (pos + n) (x - (u : Int)) (scals (l.drop (pos + n)))) = offL l unit := hoff
        clear hne hcc hn huu hst hoff
        by_cases hx : x ≤ 0
        · rw [if_pos hx] at hoff2
          by_cases hx0 : x < 0
          · rw [if_pos hx0] at hoff2
            have HE : Hid (offRes l unit = (0, 12)) := by show _ = _; rw [HRES.out, ← hoff2]
            clear hoff2
            go_wp2
            go_ret2
            exact ⟨ret_p2 (by rw [HE.out]; rfl) (by omega) (by omega), hbel2⟩
          · rw [if_neg hx0] at hoff2
            have HE : Hid (offRes l unit = (pos, 0)) := by show _ = _; rw [HRES.out, ← hoff2]
            have hx1 : 0 ≤ x := by omega
            clear hoff2 hx0
            go_wp2
            go_ret2
            exact ⟨ret_p2 (by rw [HE.out]; simp) (by omega) (by omega), hbel2⟩
        · rw [if_neg hx] at hoff2
          have hx1 : 0 < x := by omega
          have HO := Lib.hid hoff2
          clear hoff2 hx
          go_wp2_with (go_at_call 79; refine cU.mono ?_; rintro e w2 ⟨rfl, rfl⟩)
          go_roundw
          case rel => exact ⟨pos + n, x - u, rfl, rfl, HO.out, by omega, by omega⟩
          case measure => simp; omega
      · have hnx : ∀ ty, (Instr.next (.pointer (some ⟨w1.heap.size, 0, none⟩)) true ty).run Tryd.prog (w1.iter s pos) = _ := fun ty => run_next_end w1 s pos ty hlt
        have hd : l.drop pos = [] := List.drop_eq_nil_of_le (by rw [HL.out]; omega)
        have hoff := HC.out
        rw [hd] at hoff
        have hoff2 : (if x = 0 then some pos else none) = offL l unit := hoff
        have hps : pos = s.size := by omega
        by_cases hx : x = 0
        · rw [if_pos hx] at hoff2
          have HE : Hid (offRes l unit = (s.size, 0)) := by show _ = _; rw [HRES.out, ← hoff2, hps]
          have hxb : (x != 0) = false := by rw [hx]; rfl
          clear hoff2 hoff hd hlt hps hx
          go_wp2
          go_ret2
          exact ⟨ret_p2 (by rw [HE.out]; simp) (by omega) (by omega), hbel⟩
        · rw [if_neg hx] at hoff2
          have HE : Hid (offRes l unit = (0, 12)) := by show _ = _; rw [HRES.out, ← hoff2]
          have hxb : (x != 0) = true := by rw [bne_iff_ne]; exact hx
          clear hoff2 hoff hd hlt hps hx
          go_wp2
          go_ret2
          exact ⟨ret_p2 (by rw [HE.out]; rfl) (by omega) (by omega), hbel⟩
  · rw [show validD l = false by simpa using hv] at cR
    have HRES : Hid (offRes l unit = (0, 11)) := if_neg hv
    clear hv
    go_enter Tryd.func75, Tryd.ntmps75
    go_wp2_with (go_at_call 41; refine cR.mono ?_; rintro e w1 ⟨rfl, hb1⟩)
    go_ret2
    exact ⟨ret_p2 (by rw [HRES.out]; rfl) (by omega) (by omega), hb1⟩

theorem unitRes_start (l : List UInt8) (x : Int) (hv : validD l = true) (h : startAt l x) : unitRes l x = (unitsL (l.take x.toNat), 0) := by
  unfold unitRes
  rw [if_pos hv, ((unitAt_start l hv x).1 h).1]
theorem unitRes_none (l : List UInt8) (x : Int) (hv : validD l = true) (h : ¬ startAt l x) : unitRes l x = (0, 12) := by
  unfold unitRes
  rw [if_pos hv, (unitAt_start l hv x).2 h]
theorem ext_zero (s : ByteArray) (k : Nat) : (s.extract 0 k).data.toList = s.data.toList.take k := by
  rw [extract_data, List.drop_zero, Nat.sub_zero]

end Go.Proofs.YtcadfaecoldcpaaDoor
