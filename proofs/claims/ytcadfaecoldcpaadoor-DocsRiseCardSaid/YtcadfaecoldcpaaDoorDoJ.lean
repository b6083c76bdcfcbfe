/-
  THE WALK of the statement DocsLong. Conditions: what Env says of the world; the name's size.
-/
import Derived.Test.YtcadfaecoldcpaaDoorDoWb
import Derived.Test.YtcadfaecoldcpaaDoorEdP
set_option linter.unusedVariables false
set_option linter.unusedSimpArgs false
namespace Go.Proofs.YtcadfaecoldcpaaDoor
open Go.RowKit Go.Lib Go.Shelf Go.Maps

theorem holdsL_ok {t : List UInt8} (h1 : validD t = true) (h2 : t.length ≤ 16384) : holdsL t = 0 := by
  unfold holdsL
  rw [if_pos h1, if_neg (by omega)]
theorem holdsL_full {t : List UInt8} (h1 : validD t = true) (h2 : 16384 < t.length) : holdsL t = 73 := by
  unfold holdsL
  rw [if_pos h1, if_pos h2]
theorem openL_ok {L : List DocL} {d : DocL} (h1 : namedL d.n) (h2 : holdsL d.t = 0) (h3 : L.length < 8) (h4 : hasL L d.n = false) : openL L d = (insL d L, 0) := by
  unfold openL
  rw [if_pos h1, if_pos h2, if_neg (by omega), if_neg (by rw [h4]; exact Bool.false_ne_true)]
theorem openL_full {L : List DocL} {d : DocL} (h1 : namedL d.n) (h2 : holdsL d.t = 0) (h3 : 8 ≤ L.length) : openL L d = (L, 73) := by
  unfold openL
  rw [if_pos h1, if_pos h2, if_pos h3]
theorem openL_long {L : List DocL} {d : DocL} (h1 : namedL d.n) (h2 : holdsL d.t = 73) : openL L d = (L, 73) := by
  unfold openL
  rw [if_pos h1, if_neg (by rw [h2]; decide), h2]

def lgX (T : List UInt8) : DocL := ⟨[120], 0, T⟩
def lgD (n : Int) (k : Nat) : DocL := ⟨[97 + UInt8.ofNat k], n, []⟩
/-- The documents behind k of the seven. -/
def lgL (T : List UInt8) (n : Int) : Nat → List DocL
  | 0 => [lgX T]
  | 1 => [lgD n 0, lgX T]
  | 2 => [lgD n 0, lgD n 1, lgX T]
  | 3 => [lgD n 0, lgD n 1, lgD n 2, lgX T]
  | 4 => [lgD n 0, lgD n 1, lgD n 2, lgD n 3, lgX T]
  | 5 => [lgD n 0, lgD n 1, lgD n 2, lgD n 3, lgD n 4, lgX T]
  | 6 => [lgD n 0, lgD n 1, lgD n 2, lgD n 3, lgD n 4, lgD n 5, lgX T]
  | _ => [lgD n 0, lgD n 1, lgD n 2, lgD n 3, lgD n 4, lgD n 5, lgD n 6, lgX T]
def lgS : ByteArray := ⟨#[97, 98, 99, 100, 101, 102, 103]⟩
set_option maxRecDepth 100000 in
theorem lg_name : ∀ j, j < 7 → (lgS.extract j (j + 1)).data.toList = [97 + UInt8.ofNat j] := by
  intro j hj
  rw [ByteArray.data_extract]
  have : j = 0 ∨ j = 1 ∨ j = 2 ∨ j = 3 ∨ j = 4 ∨ j = 5 ∨ j = 6 := by omega
  rcases this with rfl | rfl | rfl | rfl | rfl | rfl | rfl <;> rfl
set_option maxRecDepth 100000 in
theorem lg_named : ∀ j, j < 7 → namedL [97 + UInt8.ofNat j] := by
  intro j hj
  have : j = 0 ∨ j = 1 ∨ j = 2 ∨ j = 3 ∨ j = 4 ∨ j = 5 ∨ j = 6 := by omega
  rcases this with rfl | rfl | rfl | rfl | rfl | rfl | rfl <;> decide
theorem lg_len (T : List UInt8) (n : Int) : ∀ j, j ≤ 7 → (lgL T n j).length = j + 1 := by
  intro j hj
  have : j = 0 ∨ j = 1 ∨ j = 2 ∨ j = 3 ∨ j = 4 ∨ j = 5 ∨ j = 6 ∨ j = 7 := by omega
  rcases this with rfl | rfl | rfl | rfl | rfl | rfl | rfl | rfl <;> rfl
set_option maxRecDepth 100000 in
theorem lg_has (T : List UInt8) (n : Int) : ∀ j, j < 7 → hasL (lgL T n j) [97 + UInt8.ofNat j] = false := by
  intro j hj
  have : j = 0 ∨ j = 1 ∨ j = 2 ∨ j = 3 ∨ j = 4 ∨ j = 5 ∨ j = 6 := by omega
  rcases this with rfl | rfl | rfl | rfl | rfl | rfl | rfl <;> rfl
set_option maxRecDepth 100000 in
theorem lg_ins (T : List UInt8) (n : Int) : ∀ j, j < 7 → insL (lgD n j) (lgL T n j) = lgL T n (j + 1) := by
  intro j hj
  have : j = 0 ∨ j = 1 ∨ j = 2 ∨ j = 3 ∨ j = 4 ∨ j = 5 ∨ j = 6 := by omega
  rcases this with rfl | rfl | rfl | rfl | rfl | rfl | rfl <;> rfl
theorem lg_open (T : List UInt8) (n : Int) (j : Nat) (hj : j < 7) : openL (lgL T n j) (lgD n j) = (lgL T n (j + 1), 0) := by
  rw [openL_ok (lg_named j hj) (holdsL_ok rfl (Nat.zero_le _)) (by rw [lg_len T n j (by omega)]; omega) (lg_has T n j hj), lg_ins T n j hj]
theorem lg_size (T : List UInt8) (n : Int) : sizeL (lgL T n 7) = T.length := by
  show 0 + (0 + (0 + (0 + (0 + (0 + (0 + (T.length + 0))))))) = _
  omega

def CellsA (w : World) (g : Nat) : Prop := ∀ i, i < 16385 → w.cell? ⟨g, i, none⟩ = some (.int .u8 97)
theorem CellsA.lt {w : World} {g : Nat} (h : CellsA w g) : g < w.heap.size := World.block_lt_of_cell? _ _ (h 0 (by decide))
theorem CellsA.below {w w' : World} {g : Nat} (h : CellsA w g) (hb : Below w.heap.size w w') : CellsA w' g := fun i hi => (hb.cell h.lt).trans (h i hi)
theorem CellsA.grown {w w' : World} {g mb : Nat} (h : CellsA w g) (hg : w.grownBy w' (some mb)) (hne : g ≠ mb) : CellsA w' g := fun i hi =>
  (World.cell?_of_block (hg.block g h.lt fun e => hne (Option.some.inj e))).trans (h i hi)
theorem conv_at {w : World} {g : Nat} (h : CellsA w g) (o n : Nat) (hn : o + n ≤ 16385) : (convert 48 9 (.slice (some ⟨g, o, none⟩) n n)).run Tryd.prog w = .ok (.string ⟨(reA n).toArray⟩) w := by
  have hcell : ∀ i (hi : i < (reA n).length), w.cell? ((⟨g, o, none⟩ : Addr).add i) = some (.int .u8 ((reA n)[i].toNat : Int)) := fun i hi => by
    have hi' : i < n := by rw [reA_len] at hi; exact hi
    have := h (o + i) (by omega)
    have e : (reA n)[i]'hi = 97 := List.getElem_replicate ..
    rw [e, add_lit]
    exact this
  have := run_convert_bytes_back (P := Tryd.prog) w 48 9 5 ⟨g, o, none⟩ n (reA n) Tryd.underlying48 Tryd.underlying5 Tryd.underlying9 hcell
  rw [reA_len] at this
  exact this

set_option maxRecDepth 100000 in
set_option maxHeartbeats 4000000 in
theorem docsLong_any (n : Int) (name : ByteArray) (w : World) (hE : Env w) : Calls Tryd.prog 6 #[.int .i64 n, .string name] w (BoolPost true w) := by
  have HL := Lib.hid fun w' he => alive07_any w' he
  have HE := Lib.hid hE
  obtain ⟨S1, hS1⟩ : ∃ S : ByteArray, S = ⟨(reA 16385).toArray⟩ := ⟨_, rfl⟩
  obtain ⟨S0, hS0⟩ : ∃ S : ByteArray, S = ⟨(reA 16384).toArray⟩ := ⟨_, rfl⟩
  have l1 : S1.data.toList = reA 16385 := by rw [hS1]
  have l0 : S0.data.toList = reA 16384 := by rw [hS0]
  have z1 : S1.size = 16385 := by rw [Lib.size_eq, l1, reA_len]
  have z0 : S0.size = 16384 := by rw [Lib.size_eq, l0, reA_len]
  have v1 := reA_right 16385
  have v0 := reA_right 16384
  have n1 := reA_len 16385
  have n0 := reA_len 16384
  rw [← l1] at v1 n1
  rw [← l0] at v0 n0
  have cv1 : ∀ w' g, CellsA w' g → (convert 48 9 (.slice (some ⟨g, 0, none⟩) 16385 16385)).run Tryd.prog w' = .ok (.string S1) w' := fun w' g h => by
    rw [hS1]
    exact conv_at h 0 16385 (by decide)
  have cv0 : ∀ w' g, CellsA w' g → (convert 48 9 (.slice (some ⟨g, 1, none⟩) 16384 16384)).run Tryd.prog w' = .ok (.string S0) w' := fun w' g h => by
    rw [hS0]
    exact conv_at h 1 16384 (by decide)
  clear hS1 hS0 l1 l0
  have nx : namedL [120] := by decide
  have ny : namedL [121] := by decide
  have c1 : ∀ b mb w', St w' b mb [] → Env w' → Calls Tryd.prog 12 #[.pointer (some ⟨b, 0, none⟩), .agg #[.string ⟨#[120]⟩, .int .i64 0, .string S1]] w' (ActN 73 [] b mb w') := fun b mb w' h he =>
    (docsOpen_any b mb [] ⟨⟨#[120]⟩, 0, S1⟩ w' h (show 1 ≤ 4194304 by decide) (by show S1.size ≤ _; omega) he).mono (actN_of (openL_long nx (holdsL_full v1 (by show 16384 < S1.data.toList.length; omega))))
  have c2 : ∀ b mb w', St w' b mb [] → Env w' → Calls Tryd.prog 12 #[.pointer (some ⟨b, 0, none⟩), .agg #[.string ⟨#[120]⟩, .int .i64 0, .string S0]] w' (ActN 0 (lgL S0.data.toList n 0) b mb w') := fun b mb w' h he =>
    (docsOpen_any b mb [] ⟨⟨#[120]⟩, 0, S0⟩ w' h (show 1 ≤ 4194304 by decide) (by show S0.size ≤ _; omega) he).mono (actN_of (openL_ok nx (holdsL_ok v0 (by show S0.data.toList.length ≤ 16384; omega)) (by decide) rfl))
  have c3 : ∀ b mb w', St w' b mb (lgL S0.data.toList n 0) → Env w' → Calls Tryd.prog 14 #[.pointer (some ⟨b, 0, none⟩), .string ⟨#[120]⟩, .int .i64 1, .string S1] w' (ActN 73 (lgL S0.data.toList n 0) b mb w') := fun b mb w' h he =>
    (docsWhole_any b mb _ ⟨#[120]⟩ 1 S1 w' h (by decide) (by omega) he).mono (actN_of (by
      unfold wholeL becomeL
      rw [show findL (lgL S0.data.toList n 0) (⟨#[120]⟩ : ByteArray).data.toList = some (lgX S0.data.toList) from rfl]
      simp only
      rw [show (lgX S0.data.toList).v = 0 from rfl, if_neg (show ¬ ((1 : Int) ≤ 0) by decide), holdsL_full v1 (by omega), if_neg (by decide)]))
  have c4 : ∀ b mb w' j, j < 7 → St w' b mb (lgL S0.data.toList n j) → Env w' → Calls Tryd.prog 12 #[.pointer (some ⟨b, 0, none⟩), .agg #[.string ((⟨#[97, 98, 99, 100, 101, 102, 103]⟩ : ByteArray).extract j (j + 1)), .int .i64 n, .string ⟨#[]⟩]] w' (ActN 0 (lgL S0.data.toList n (j + 1)) b mb w') := fun b mb w' j hj h he =>
    (docsOpen_any b mb _ ⟨lgS.extract j (j + 1), n, ⟨#[]⟩⟩ w' h (by show (lgS.extract j (j + 1)).size ≤ _; rw [Lib.size_eq, lg_name j hj]; exact (by decide : 1 ≤ 4194304)) (show 0 ≤ 4194304 by decide) he).mono (actN_of (by
      rw [show DocV.l ⟨lgS.extract j (j + 1), n, ⟨#[]⟩⟩ = lgD n j by unfold DocV.l lgD; rw [lg_name j hj]]
      exact lg_open _ n j hj))
  have c5 : ∀ b mb w', St w' b mb (lgL S0.data.toList n 7) → Env w' → Calls Tryd.prog 12 #[.pointer (some ⟨b, 0, none⟩), .agg #[.string ⟨#[121]⟩, .int .i64 0, .string ⟨#[]⟩]] w' (ActN 73 (lgL S0.data.toList n 7) b mb w') := fun b mb w' h he =>
    (docsOpen_any b mb _ ⟨⟨#[121]⟩, 0, ⟨#[]⟩⟩ w' h (by decide) (by decide) he).mono (actN_of (openL_full ny (holdsL_ok rfl (Nat.zero_le _)) (by rw [lg_len _ n 7 (by decide)]; decide)))
  have c6 : ∀ b mb w', St w' b mb (lgL S0.data.toList n 7) → Calls Tryd.prog 18 #[.pointer (some ⟨b, 0, none⟩)] w' (fun e w'' => e = .returned (.int .i64 16384) ∧ Below w'.heap.size w' w'') := fun b mb w' h => by
    have := docsSize_any b mb _ w' h
    rw [lg_size, n0] at this
    exact this
  have H1 := Lib.hid c1
  have H2 := Lib.hid c2
  have H3 := Lib.hid c3
  have H4 := Lib.hid c4
  have H5 := Lib.hid c5
  have H6 := Lib.hid c6
  have V1 := Lib.hid cv1
  have V0 := Lib.hid cv0
  clear c1 c2 c3 c4 c5 c6 cv1 cv0 v1 v0 n1 n0 z1 z0 nx ny hE
  obtain ⟨L, hL⟩ : ∃ L, L = lgL S0.data.toList n := ⟨_, rfl⟩
  rw [← hL] at H2 H3 H4 H5 H6
  clear hL
  go_enter Tryd.func6, Tryd.ntmps6
  go_wp2_with (first
    | (at_make; refine wpList_mk _ eltBytes rfl _ _ rfl _ _ _ _ 16385 rfl rfl rfl rfl (by decide) (by unfold maxLen; decide) ?_; intro w1 xs hown hgr))
  have hxl : xs.length = 16385 := hown.1
  have hb0 : Below w.heap.size w w1 := (Below.refl _ _).grown hgr (Nat.le_refl _) (fun _ h => by cases h)
  have HO := Lib.hid hown
  clear hown hgr
  go_loopw [6] (fun v wr => ∃ j : Nat, v = .int .i64 j ∧ j ≤ 16385 ∧ Below w.heap.size w wr ∧ Hid (World.ownsRow wr w.heap.size 5 1 (.slice (some ⟨w.heap.size, 0, none⟩) 16385 16385) 16385 (repV j xs))) (fun v _ => 16385 - (RowKit.intOf v).toNat)
  case atStart => exact ⟨0, rfl, Nat.zero_le _, hb0, by show _; have := HO.out; rw [show repV 0 xs = xs from rfl]; exact this⟩
  case round =>
    obtain ⟨j, rfl, hj, hbr, hown⟩ := hrel
    by_cases hlt : j < 16385
    · have hjz : (j : Int) < 16385 := by omega
      obtain ⟨hc, hf⟩ := own_cell hown.out hlt
      have HN : Hid (World.ownsRow (wr.setCell ⟨w.heap.size, j, none⟩ (.int .u8 97)) w.heap.size 5 1 (.slice (some ⟨w.heap.size, 0, none⟩) 16385 16385) 16385 (repV (j + 1) xs)) := by
        show _
        rw [← repV_set j xs (by omega)]
        exact own_set hown.out _
      clear hown
      go_wp2
      go_roundw
      case rel => exact ⟨j + 1, by go_num, by omega, hbr.setCell (Nat.le_refl _) _, HN.out⟩
      case measure => simp [RowKit.intOf]; omega
    · obtain rfl : j = 16385 := by omega
      have hA : CellsA wr w.heap.size := fun i hi => by
        have := World.ownsRow.cells hown.out (g := w.heap.size) rfl i (.int .u8 97) (by
          unfold repV
          rw [List.getElem?_append_left (by rw [List.length_replicate]; exact hi), List.getElem?_replicate, if_pos hi])
        rw [add_lit, Nat.zero_add] at this
        exact this
      have hgl := hA.lt
      have HA := Lib.hid hA
      have HN := Lib.hid (docsNew_any wr)
      clear hown hlt HO hb0 hA
      go_wp2_with (first
        | (go_at_call 14; refine (H3.out b mb _ hT4.out (HE.out.below hb4.1)).mono ?_; rintro e w5 ⟨rfl, hT5, hg5⟩; replace hT5 := Lib.hid hT5; have hb5 := below_act hb4.1 hb4.2 (by omega) hg5; clear hg5)
        | (go_at_call 12; refine (H2.out b mb _ hT3.out (HE.out.below hb3.1)).mono ?_; rintro e w4 ⟨rfl, hT4, hg4⟩; replace hT4 := Lib.hid hT4; have hb4 := below_act hb3.1 hb3.2 (by omega) hg4; have hA4 := Lib.hid (hA3.out.grown hg4 (by omega)); have q4 := V1.out _ _ hA4.out; clear hg4)
        | (go_at_call 12; refine (H1.out b mb _ hT2.out (HE.out.below hb2)).mono ?_; rintro e w3 ⟨rfl, hT3, hg3⟩; replace hT3 := Lib.hid hT3; have hb3 := below_act hb2 hb2s (by omega) hg3; have hA3 := Lib.hid (hA2.out.grown hg3 (by omega)); have q3 := V0.out _ _ hA3.out; clear hg3)
        | (go_at_call 7; refine HN.out.mono ?_; rintro e w2 ⟨b, mb, rfl, hT2, hbb, hm, hb2⟩; replace hT2 := Lib.hid hT2; have hA2 := Lib.hid (HA.out.below hb2); have q2 := V1.out _ _ hA2.out; replace hb2 := bth hbr hb2; have hb2s := hb2.size))
      have HT5 := hT5
      have hmw : w.heap.size ≤ mb := by omega
      clear hT2 hT3 hT4 hA2 hA3 hA4 HA q2 q3 q4 hb2 hb3 hb4 hb2s H1 H2 H3 V1 V0 HN
      go_loopw [11] (fun v wq => ∃ j : Nat, v = .int .i64 j ∧ j ≤ 7 ∧ (Below w.heap.size w wq ∧ w.heap.size ≤ wq.heap.size) ∧ Hid (St wq b mb (L j))) (fun v _ => 7 - (RowKit.intOf v).toNat)
      case atStart => exact ⟨0, rfl, Nat.zero_le _, hb5, HT5⟩
      case round =>
        obtain ⟨j, rfl, hj7, hbq, hTq⟩ := hrel
        by_cases hlt : j < 7
        · have hjz : (j : Int) < 7 := by omega
          have HO := Lib.hid (H4.out b mb wr j hlt hTq.out (HE.out.below hbq.1))
          have hsz : (⟨#[97, 98, 99, 100, 101, 102, 103]⟩ : ByteArray).size = 7 := rfl
          go_wp2_with (go_at_call 12; refine HO.out.mono ?_; rintro e w6 ⟨rfl, hT6, hg6⟩; replace hT6 := Lib.hid hT6; have hb6 := below_act hbq.1 hbq.2 hmw hg6; clear hg6)
          go_roundw
          case rel => exact ⟨j + 1, by go_num, by omega, hb6, hT6⟩
          case measure => simp [RowKit.intOf]; omega
        · obtain rfl : j = 7 := by omega
          have HO := Lib.hid (H5.out b mb wr hTq.out (HE.out.below hbq.1))
          have cG : ∀ w', Calls Tryd.prog 17 #[.pointer none, .string name] w' (fun e w'' => e = .returned (.tuple #[.agg #[.string ⟨#[]⟩, .int .i64 0, .string ⟨#[]⟩], .bool false]) ∧ Below w'.heap.size w' w'') := fun w' => getNil_any name w'
          have HG := Lib.hid cG
          clear cG
          go_wp2_with (first
            | (go_at_call 18; (with_reducible refine (sizeNil_any _).mono ?_); rintro e w15 ⟨rfl, rfl⟩)
            | (go_at_call 11; (with_reducible refine (allNil_any _).mono ?_); rintro e w14 ⟨rfl, rfl⟩)
            | (go_at_call 15; (with_reducible refine (closeNil_any name _).mono ?_); rintro e w13 ⟨rfl, hb13⟩; replace hb13 := bth hb12 hb13)
            | (go_at_call 14; (with_reducible refine (wholeNil_any name n ⟨#[]⟩ _).mono ?_); rintro e w12 ⟨rfl, hb12⟩; replace hb12 := bth hb11 hb12)
            | (go_at_call 13; (with_reducible refine (changeNil_any name n none 0 0 _).mono ?_); rintro e w11 ⟨rfl, hb11⟩; replace hb11 := bth hb10 hb11)
            | (go_at_call 12; (with_reducible refine (openNil_any name 0 ⟨#[]⟩ _).mono ?_); rintro e w10 ⟨rfl, hb10⟩; replace hb10 := bth hb9 hb10)
            | (go_at_call 18; (with_reducible refine (H6.out b mb _ (hT7.out.below hb8)).mono ?_); rintro e w9 ⟨rfl, hb9⟩; replace hb9 := bth (bth hw7 hb8) hb9)
            | (go_at_call 9; refine (HL.out _ (HE.out.below hw7)).mono ?_; rintro e w8 ⟨rfl, hb8⟩)
            | (go_at_call 17; refine (HG.out _).mono ?_; rintro e w7 ⟨rfl, hb7⟩; have hx7 := bth hb7 (bal w7 (.cells #[.string ⟨#[]⟩, .int .i64 0, .string ⟨#[]⟩] 24)); have hw7 := bth hb6.1 hx7; have hT7 := Lib.hid (hT6.out.below hx7))
            | (go_at_call 12; refine HO.out.mono ?_; rintro e w6 ⟨rfl, hT6, hg6⟩; replace hT6 := Lib.hid hT6; have hb6 := below_act hbq.1 hbq.2 hmw hg6; clear hg6))
          go_ret
          exact ⟨rfl, hb13⟩
end Go.Proofs.YtcadfaecoldcpaaDoor
