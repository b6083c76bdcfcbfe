/-
  THE WALK of the statement LinesJoin, where it goes on. Conditions: what Env says of the world; the texts. sizes.
-/
import Derived.Test.YtadkjeefiacdbaaDoorLinLawC
import Derived.Deep.RegionHeld3
import Derived.Deep.DrawnRows
set_option linter.unusedVariables false
set_option linter.unusedSimpArgs false
namespace Go.Proofs.YtadkjeefiacdbaaDoor
open Go.RowKit Go.Lib Go.Shelf
attribute [local go_sem ↓] Go.wp_at_zero Go.wp_at_succ

theorem Ix.drew {w : World} {b : Nat} {s : ByteArray} (h : Ix w b s) : Ix w.drew b s := h.below ⟨rfl, rfl, rfl, Nat.le_refl _, fun _ _ => rfl⟩
theorem Env.drew {w : World} (h : Env w) : Env w.drew := h.below ⟨rfl, rfl, rfl, Nat.le_refl _, fun _ _ => rfl⟩

set_option maxRecDepth 100000 in
set_option maxHeartbeats 8000000 in
theorem linesJoin_on (a b : ByteArray) (p q : Int) (w : World) (hE : Env w) (hsa : a.size ≤ 200) (hsb : b.size ≤ 200) (hva : validD a.data.toList = true) (hvb : validD b.data.toList = true) (hq : q ≤ 9223372036854775807) (hp : 0 ≤ p ∧ p ≤ 1000) :
    Calls Tryd.prog 5 #[.string a, .string b, .agg #[.int .i64 p, .int .i64 q]] w (BoolPost true w) := by
  have cA := fun w' hE => alive05_any w' hE
  have HA := Lib.hid cA
  have HE := Lib.hid hE
  have hvz : validD (zB a b).data.toList = true := by
    rw [zB_data, validD_append _ _ hva]
    show validD ([10] ++ b.data.toList) = true
    rw [validD_append [10] _ (by decide)]
    exact hvb
  have hzs := zB_size a b
  have cx := fun w' hT => linNew_right a w' (by omega) hva hT
  have cy := fun w' hT => linNew_right b w' (by omega) hvb hT
  have cz : ∀ w', Tabs w' → Calls Tryd.prog 14 #[.string (a ++ (⟨#[10]⟩ : ByteArray) ++ b)] w' (fun e w'' => ∃ b', e = .returned (.tuple #[.pointer (some ⟨b', 0, none⟩), .int .i64 0]) ∧ Ix w'' b' (zB a b) ∧ w'.heap.size ≤ b' ∧ Below w'.heap.size w' w'') := fun w' hT => linNew_right (zB a b) w' (by omega) hvz hT
  have HX := Lib.hid cx
  have HY := Lib.hid cy
  have HZ := Lib.hid cz
  obtain ⟨na, hna⟩ : ∃ n, n = nLines a.data.toList := ⟨_, rfl⟩
  obtain ⟨nb, hnb⟩ : ∃ n, n = nLines b.data.toList := ⟨_, rfl⟩
  have hnz : nLines (zB a b).data.toList = na + nb := by rw [zB_data, nLines_join, hna, hnb]
  have lx : ∀ b' w', Ix w' b' a → Calls Tryd.prog 16 #[.pointer (some ⟨b', 0, none⟩)] w' (fun e w'' => e = .returned (.int .i64 (na : Nat)) ∧ w'' = w') := fun b' w' h => by rw [hna]; exact linLines_same b' a w' h
  have ly : ∀ b' w', Ix w' b' b → Calls Tryd.prog 16 #[.pointer (some ⟨b', 0, none⟩)] w' (fun e w'' => e = .returned (.int .i64 (nb : Nat)) ∧ w'' = w') := fun b' w' h => by rw [hnb]; exact linLines_same b' b w' h
  have lz : ∀ b' w', Ix w' b' (zB a b) → Calls Tryd.prog 16 #[.pointer (some ⟨b', 0, none⟩)] w' (fun e w'' => e = .returned (.int .i64 ((na : Int) + (nb : Int))) ∧ w'' = w') := fun b' w' h => by
    have := linLines_same b' (zB a b) w' h
    rw [hnz] at this
    exact this
  have LX := Lib.hid lx
  have LY := Lib.hid ly
  have LZ := Lib.hid lz
  have hna1 := nLines_le a (by omega)
  have hnb1 := nLines_le b (by omega)
  rw [← hna] at hna1
  rw [← hnb] at hnb1
  have ey := offP_err b.data.toList p q
  have ex := offP_err a.data.toList p q
  have hzo : ∃ k e : Nat, offP (zB a b).data.toList p q = (k, e) ∧ (∀ j, offP a.data.toList p q = (j, 0) → k = j ∧ e = 0) := by
    obtain ⟨⟨k, e⟩, h⟩ : ∃ z, z = offP (zB a b).data.toList p q := ⟨_, rfl⟩
    refine ⟨k, e, h.symm, fun j hj => ?_⟩
    rw [zB_data, off_joinL _ _ _ _ _ hj] at h
    exact ⟨congrArg Prod.fst h, congrArg Prod.snd h⟩
  obtain ⟨zo, ze, hzo1, hzo2⟩ := hzo
  have oz1 : ∀ b' w', Ix w' b' (zB a b) → Env w' → Calls Tryd.prog 18 #[.pointer (some ⟨b', 0, none⟩), .agg #[.int .i64 p, .int .i64 q]] w' (Lit2 (zo : Nat) (ze : Nat) w') := fun b' w' h he => (linOffset_any b' (zB a b) p q w' (by omega) hvz hq h he).mono (post2_lit hzo1)
  have hjr := off_joinR a.data.toList b.data.toList p q hp.1
  rw [← zB_data, ← hna] at hjr
  have OZ := Lib.hid oz1
  have hp0 : decide (p < 0) = false := decide_eq_false (by omega)
  have hp1 : decide (1000 < p) = false := decide_eq_false (by omega)
  have hla := decide_eq_false (p := (200 : Int) < (a.size : Int)) (by omega)
  have hlb := decide_eq_false (p := (200 : Int) < (b.size : Int)) (by omega)
  have hpa : p ≤ 1000 := hp.2
  have hwr : IntKind.i64.wrap (p + (na : Int)) = p + (na : Int) := by rw [IntKind.wrap_i64]; omega
  have HW := Lib.hid hwr
  clear hwr
  have hpb : 0 ≤ p := hp.1
  have oy : ∀ k e : Nat, offP b.data.toList p q = (k, e) → ∀ b' w', Ix w' b' b → Env w' → Calls Tryd.prog 18 #[.pointer (some ⟨b', 0, none⟩), .agg #[.int .i64 p, .int .i64 q]] w' (Lit2 (k : Nat) (e : Nat) w') := fun k e h b' w' hx he => (linOffset_any b' b p q w' (by omega) hvb hq hx he).mono (post2_lit h)
  have ox : ∀ k e : Nat, offP a.data.toList p q = (k, e) → ∀ b' w', Ix w' b' a → Env w' → Calls Tryd.prog 18 #[.pointer (some ⟨b', 0, none⟩), .agg #[.int .i64 p, .int .i64 q]] w' (Lit2 (k : Nat) (e : Nat) w') := fun k e h b' w' hx he => (linOffset_any b' a p q w' (by omega) hva hq hx he).mono (post2_lit h)
  have oz : ∀ k e : Nat, offP (zB a b).data.toList (p + (na : Nat)) q = (k, e) → ∀ b' w', Ix w' b' (zB a b) → Env w' → Calls Tryd.prog 18 #[.pointer (some ⟨b', 0, none⟩), .agg #[.int .i64 (p + (na : Int)), .int .i64 q]] w' (Lit2 (k : Nat) (e : Nat) w') := fun k e h b' w' hx he => (linOffset_any b' (zB a b) (p + (na : Nat)) q w' (by omega) hvz hq hx he).mono (post2_lit h)
  have HB : ∀ (m k : Int) (e1 : Nat), True := fun _ _ _ => trivial
  clear HB cA hE hva hvb hvz cx cy cz hna hnb hnz lx ly lz oz1 hzs
  rcases ey with ⟨k, hk, hkl, _, _⟩ | hk <;> rcases ex with ⟨j, hj, hjl, _, _⟩ | hj
  · rw [hk] at hjr
    obtain ⟨rfl, rfl⟩ := hzo2 j hj
    have oy' := oy _ _ hk
    have ox' := ox _ _ hj
    have oz' : ∀ b' w', Ix w' b' (zB a b) → Env w' → Calls Tryd.prog 18 #[.pointer (some ⟨b', 0, none⟩), .agg #[.int .i64 (p + (na : Int)), .int .i64 q]] w' (Lit2 ((a.size : Int) + 1 + (k : Int)) 0 w') := fun b' w' hx he => oz (a.size + 1 + k) 0 (by rw [hjr, size_eq]; rfl) b' w' hx he
    rw [← size_eq] at hkl
    have OY := Lib.hid oy'
    have OX := Lib.hid ox'
    have OR := Lib.hid oz'
    clear oy ox oz oy' ox' oz' hjr hzo1 hzo2 hk hj hp
    go_enter Tryd.func5, Tryd.ntmps5
    go_wp2_with (first
      | (go_at_call 14; (with_reducible refine (HZ.out _ ?_).mono ?_); exact he2.1; rintro e w3 ⟨bz, rfl, hz3, hgz, hb3⟩; have he3 := he2.below hb3; have hx3 := hx2.below hb3; have hy3 := hy2.below hb3; replace hb3 := bth hb2 hb3; obtain ⟨hc0, hc1, _⟩ := box2 hb3)
      | (go_at_call 14; (with_reducible refine (HY.out _ ?_).mono ?_); exact he1.1; rintro e w2 ⟨bY, rfl, hy2, hgy, hb2⟩; have he2 := he1.below hb2; have hx2 := hx1.below hb2; replace hb2 := bth hb1 hb2)
      | (go_at_call 14; (with_reducible refine (HX.out _ ?_).mono ?_); exact (HE.out.below (bal w _)).1; rintro e w1 ⟨bx, rfl, hx1, hge, hb1⟩; have he1 := HE.out.below (bth (bal w _) hb1))
      | (go_at_call 16; (with_reducible refine (LZ.out _ _ hz3).mono ?_); rintro e w4 ⟨rfl, rfl⟩)
      | (go_at_call 16; (with_reducible refine (LX.out _ _ hx3).mono ?_); rintro e w4 ⟨rfl, rfl⟩)
      | (go_at_call 16; (with_reducible refine (LY.out _ _ hy3).mono ?_); rintro e w4 ⟨rfl, rfl⟩)
      | (go_at_call 18; (with_reducible refine (OY.out _ _ hy3 he3).mono ?_); rintro e w5 ⟨rfl, hb5⟩; have he5 := he3.below hb5; have hx5 := hx3.below hb5; have hz5 := hz3.below hb5; replace hb5 := bth hb3 hb5; obtain ⟨hd0, hd1, _⟩ := box2 hb5))
    go_region_held3 (fun w' => w'.cell? ⟨w.heap.size, 0, none⟩ = some (.int .i64 p) ∧ w'.cell? ⟨w.heap.size, 1, none⟩ = some (.int .i64 q)) (first | exact ⟨hd0, hd1⟩ | exact ⟨hf0, hf1⟩) (first
      | (go_at_call 16; (with_reducible refine (LX.out _ _ ?_).mono ?_); exact hx5.drew; rintro e w4 ⟨rfl, rfl⟩)
      | (go_at_call 18; rw [HW.out]; (with_reducible refine (OR.out _ _ ?_ ?_).mono ?_); exact hz5.drew; exact he5.drew; rintro e w6 ⟨rfl, hb6⟩; replace hb6 := bdr hb6; have he6 := he5.below hb6; have hx6 := hx5.below hb6; have hz6 := hz5.below hb6; replace hb6 := bth hb5 hb6; obtain ⟨hf0, hf1, _⟩ := box2 hb6))
    go_wp2_with (first
      | (go_at_call 18; (with_reducible refine (OX.out _ _ hx6 he6).mono ?_); rintro e w7 ⟨rfl, hb7⟩; have he7 := he6.below hb7; have hz7 := hz6.below hb7; replace hb7 := bth hb6 hb7; obtain ⟨hg0, hg1, _⟩ := box2 hb7)
      | (go_at_call 18; (with_reducible refine (OZ.out _ _ hz7 he7).mono ?_); rintro e w8 ⟨rfl, hb8⟩; have he8 := he7.below hb8; replace hb8 := bth hb7 hb8; obtain ⟨hh0, hh1, _⟩ := box2 hb8)
      | (go_at_call 12; refine (HA.out _ he8).mono ?_; rintro e w9 ⟨rfl, hb9⟩; obtain ⟨_, _, hb9'⟩ := box2 (bth hb8 hb9)))
    go_ret
    exact ⟨rfl, hb9'⟩
  · rw [hk] at hjr
    have oy' := oy _ _ hk
    have ox' := ox _ _ hj
    have oz' : ∀ b' w', Ix w' b' (zB a b) → Env w' → Calls Tryd.prog 18 #[.pointer (some ⟨b', 0, none⟩), .agg #[.int .i64 (p + (na : Int)), .int .i64 q]] w' (Lit2 ((a.size : Int) + 1 + (k : Int)) 0 w') := fun b' w' hx he => oz (a.size + 1 + k) 0 (by rw [hjr, size_eq]; rfl) b' w' hx he
    rw [← size_eq] at hkl
    have OY := Lib.hid oy'
    have OX := Lib.hid ox'
    have OR := Lib.hid oz'
    clear oy ox oz oy' ox' oz' hjr hzo1 hzo2 hk hj hp
    go_enter Tryd.func5, Tryd.ntmps5
    go_wp2_with (first
      | (go_at_call 14; (with_reducible refine (HZ.out _ ?_).mono ?_); exact he2.1; rintro e w3 ⟨bz, rfl, hz3, hgz, hb3⟩; have he3 := he2.below hb3; have hx3 := hx2.below hb3; have hy3 := hy2.below hb3; replace hb3 := bth hb2 hb3; obtain ⟨hc0, hc1, _⟩ := box2 hb3)
      | (go_at_call 14; (with_reducible refine (HY.out _ ?_).mono ?_); exact he1.1; rintro e w2 ⟨bY, rfl, hy2, hgy, hb2⟩; have he2 := he1.below hb2; have hx2 := hx1.below hb2; replace hb2 := bth hb1 hb2)
      | (go_at_call 14; (with_reducible refine (HX.out _ ?_).mono ?_); exact (HE.out.below (bal w _)).1; rintro e w1 ⟨bx, rfl, hx1, hge, hb1⟩; have he1 := HE.out.below (bth (bal w _) hb1))
      | (go_at_call 16; (with_reducible refine (LZ.out _ _ hz3).mono ?_); rintro e w4 ⟨rfl, rfl⟩)
      | (go_at_call 16; (with_reducible refine (LX.out _ _ hx3).mono ?_); rintro e w4 ⟨rfl, rfl⟩)
      | (go_at_call 16; (with_reducible refine (LY.out _ _ hy3).mono ?_); rintro e w4 ⟨rfl, rfl⟩)
      | (go_at_call 18; (with_reducible refine (OY.out _ _ hy3 he3).mono ?_); rintro e w5 ⟨rfl, hb5⟩; have he5 := he3.below hb5; have hx5 := hx3.below hb5; have hz5 := hz3.below hb5; replace hb5 := bth hb3 hb5; obtain ⟨hd0, hd1, _⟩ := box2 hb5))
    go_region_held3 (fun w' => w'.cell? ⟨w.heap.size, 0, none⟩ = some (.int .i64 p) ∧ w'.cell? ⟨w.heap.size, 1, none⟩ = some (.int .i64 q)) (first | exact ⟨hd0, hd1⟩ | exact ⟨hf0, hf1⟩) (first
      | (go_at_call 16; (with_reducible refine (LX.out _ _ ?_).mono ?_); exact hx5.drew; rintro e w4 ⟨rfl, rfl⟩)
      | (go_at_call 18; rw [HW.out]; (with_reducible refine (OR.out _ _ ?_ ?_).mono ?_); exact hz5.drew; exact he5.drew; rintro e w6 ⟨rfl, hb6⟩; replace hb6 := bdr hb6; have he6 := he5.below hb6; have hx6 := hx5.below hb6; have hz6 := hz5.below hb6; replace hb6 := bth hb5 hb6; obtain ⟨hf0, hf1, _⟩ := box2 hb6))
    go_wp2_with (first
      | (go_at_call 18; (with_reducible refine (OX.out _ _ hx6 he6).mono ?_); rintro e w7 ⟨rfl, hb7⟩; have he7 := he6.below hb7; have hz7 := hz6.below hb7; replace hb7 := bth hb6 hb7; obtain ⟨hg0, hg1, _⟩ := box2 hb7)
      | (go_at_call 18; (with_reducible refine (OZ.out _ _ hz7 he7).mono ?_); rintro e w8 ⟨rfl, hb8⟩; have he8 := he7.below hb8; replace hb8 := bth hb7 hb8; obtain ⟨hh0, hh1, _⟩ := box2 hb8)
      | (go_at_call 12; refine (HA.out _ he8).mono ?_; rintro e w9 ⟨rfl, hb9⟩; obtain ⟨_, _, hb9'⟩ := box2 (bth hb8 hb9)))
    go_ret
    exact ⟨rfl, hb9'⟩
  · rw [hk] at hjr
    obtain ⟨rfl, rfl⟩ := hzo2 j hj
    have oy' := oy _ _ hk
    have ox' := ox _ _ hj
    have oz' : ∀ b' w', Ix w' b' (zB a b) → Env w' → Calls Tryd.prog 18 #[.pointer (some ⟨b', 0, none⟩), .agg #[.int .i64 (p + (na : Int)), .int .i64 q]] w' (Lit2 (0 : Nat) (51 : Nat) w') := fun b' w' hx he => oz 0 51 (by rw [hjr]; rfl) b' w' hx he
    have OY := Lib.hid oy'
    have OX := Lib.hid ox'
    have OR := Lib.hid oz'
    clear oy ox oz oy' ox' oz' hjr hzo1 hzo2 hk hj hp
    go_enter Tryd.func5, Tryd.ntmps5
    go_wp2_with (first
      | (go_at_call 14; (with_reducible refine (HZ.out _ ?_).mono ?_); exact he2.1; rintro e w3 ⟨bz, rfl, hz3, hgz, hb3⟩; have he3 := he2.below hb3; have hx3 := hx2.below hb3; have hy3 := hy2.below hb3; replace hb3 := bth hb2 hb3; obtain ⟨hc0, hc1, _⟩ := box2 hb3)
      | (go_at_call 14; (with_reducible refine (HY.out _ ?_).mono ?_); exact he1.1; rintro e w2 ⟨bY, rfl, hy2, hgy, hb2⟩; have he2 := he1.below hb2; have hx2 := hx1.below hb2; replace hb2 := bth hb1 hb2)
      | (go_at_call 14; (with_reducible refine (HX.out _ ?_).mono ?_); exact (HE.out.below (bal w _)).1; rintro e w1 ⟨bx, rfl, hx1, hge, hb1⟩; have he1 := HE.out.below (bth (bal w _) hb1))
      | (go_at_call 16; (with_reducible refine (LZ.out _ _ hz3).mono ?_); rintro e w4 ⟨rfl, rfl⟩)
      | (go_at_call 16; (with_reducible refine (LX.out _ _ hx3).mono ?_); rintro e w4 ⟨rfl, rfl⟩)
      | (go_at_call 16; (with_reducible refine (LY.out _ _ hy3).mono ?_); rintro e w4 ⟨rfl, rfl⟩)
      | (go_at_call 18; (with_reducible refine (OY.out _ _ hy3 he3).mono ?_); rintro e w5 ⟨rfl, hb5⟩; have he5 := he3.below hb5; have hx5 := hx3.below hb5; have hz5 := hz3.below hb5; replace hb5 := bth hb3 hb5; obtain ⟨hd0, hd1, _⟩ := box2 hb5))
    go_region_held3 (fun w' => w'.cell? ⟨w.heap.size, 0, none⟩ = some (.int .i64 p) ∧ w'.cell? ⟨w.heap.size, 1, none⟩ = some (.int .i64 q)) (first | exact ⟨hd0, hd1⟩ | exact ⟨hf0, hf1⟩) (first
      | (go_at_call 16; (with_reducible refine (LX.out _ _ ?_).mono ?_); exact hx5.drew; rintro e w4 ⟨rfl, rfl⟩)
      | (go_at_call 18; rw [HW.out]; (with_reducible refine (OR.out _ _ ?_ ?_).mono ?_); exact hz5.drew; exact he5.drew; rintro e w6 ⟨rfl, hb6⟩; replace hb6 := bdr hb6; have he6 := he5.below hb6; have hx6 := hx5.below hb6; have hz6 := hz5.below hb6; replace hb6 := bth hb5 hb6; obtain ⟨hf0, hf1, _⟩ := box2 hb6))
    go_wp2_with (first
      | (go_at_call 18; (with_reducible refine (OX.out _ _ hx6 he6).mono ?_); rintro e w7 ⟨rfl, hb7⟩; have he7 := he6.below hb7; have hz7 := hz6.below hb7; replace hb7 := bth hb6 hb7; obtain ⟨hg0, hg1, _⟩ := box2 hb7)
      | (go_at_call 18; (with_reducible refine (OZ.out _ _ hz7 he7).mono ?_); rintro e w8 ⟨rfl, hb8⟩; have he8 := he7.below hb8; replace hb8 := bth hb7 hb8; obtain ⟨hh0, hh1, _⟩ := box2 hb8)
      | (go_at_call 12; refine (HA.out _ he8).mono ?_; rintro e w9 ⟨rfl, hb9⟩; obtain ⟨_, _, hb9'⟩ := box2 (bth hb8 hb9)))
    go_ret
    exact ⟨rfl, hb9'⟩
  · rw [hk] at hjr
    have oy' := oy _ _ hk
    have ox' := ox _ _ hj
    have oz' : ∀ b' w', Ix w' b' (zB a b) → Env w' → Calls Tryd.prog 18 #[.pointer (some ⟨b', 0, none⟩), .agg #[.int .i64 (p + (na : Int)), .int .i64 q]] w' (Lit2 (0 : Nat) (51 : Nat) w') := fun b' w' hx he => oz 0 51 (by rw [hjr]; rfl) b' w' hx he
    have OY := Lib.hid oy'
    have OX := Lib.hid ox'
    have OR := Lib.hid oz'
    clear oy ox oz oy' ox' oz' hjr hzo1 hzo2 hk hj hp
    go_enter Tryd.func5, Tryd.ntmps5
    go_wp2_with (first
      | (go_at_call 14; (with_reducible refine (HZ.out _ ?_).mono ?_); exact he2.1; rintro e w3 ⟨bz, rfl, hz3, hgz, hb3⟩; have he3 := he2.below hb3; have hx3 := hx2.below hb3; have hy3 := hy2.below hb3; replace hb3 := bth hb2 hb3; obtain ⟨hc0, hc1, _⟩ := box2 hb3)
      | (go_at_call 14; (with_reducible refine (HY.out _ ?_).mono ?_); exact he1.1; rintro e w2 ⟨bY, rfl, hy2, hgy, hb2⟩; have he2 := he1.below hb2; have hx2 := hx1.below hb2; replace hb2 := bth hb1 hb2)
      | (go_at_call 14; (with_reducible refine (HX.out _ ?_).mono ?_); exact (HE.out.below (bal w _)).1; rintro e w1 ⟨bx, rfl, hx1, hge, hb1⟩; have he1 := HE.out.below (bth (bal w _) hb1))
      | (go_at_call 16; (with_reducible refine (LZ.out _ _ hz3).mono ?_); rintro e w4 ⟨rfl, rfl⟩)
      | (go_at_call 16; (with_reducible refine (LX.out _ _ hx3).mono ?_); rintro e w4 ⟨rfl, rfl⟩)
      | (go_at_call 16; (with_reducible refine (LY.out _ _ hy3).mono ?_); rintro e w4 ⟨rfl, rfl⟩)
      | (go_at_call 18; (with_reducible refine (OY.out _ _ hy3 he3).mono ?_); rintro e w5 ⟨rfl, hb5⟩; have he5 := he3.below hb5; have hx5 := hx3.below hb5; have hz5 := hz3.below hb5; replace hb5 := bth hb3 hb5; obtain ⟨hd0, hd1, _⟩ := box2 hb5))
    go_region_held3 (fun w' => w'.cell? ⟨w.heap.size, 0, none⟩ = some (.int .i64 p) ∧ w'.cell? ⟨w.heap.size, 1, none⟩ = some (.int .i64 q)) (first | exact ⟨hd0, hd1⟩ | exact ⟨hf0, hf1⟩) (first
      | (go_at_call 16; (with_reducible refine (LX.out _ _ ?_).mono ?_); exact hx5.drew; rintro e w4 ⟨rfl, rfl⟩)
      | (go_at_call 18; rw [HW.out]; (with_reducible refine (OR.out _ _ ?_ ?_).mono ?_); exact hz5.drew; exact he5.drew; rintro e w6 ⟨rfl, hb6⟩; replace hb6 := bdr hb6; have he6 := he5.below hb6; have hx6 := hx5.below hb6; have hz6 := hz5.below hb6; replace hb6 := bth hb5 hb6; obtain ⟨hf0, hf1, _⟩ := box2 hb6))
    go_wp2_with (first
      | (go_at_call 18; (with_reducible refine (OX.out _ _ hx6 he6).mono ?_); rintro e w7 ⟨rfl, hb7⟩; have he7 := he6.below hb7; have hz7 := hz6.below hb7; replace hb7 := bth hb6 hb7; obtain ⟨hg0, hg1, _⟩ := box2 hb7)
      | (go_at_call 18; (with_reducible refine (OZ.out _ _ hz7 he7).mono ?_); rintro e w8 ⟨rfl, hb8⟩; have he8 := he7.below hb8; replace hb8 := bth hb7 hb8; obtain ⟨hh0, hh1, _⟩ := box2 hb8)
      | (go_at_call 12; refine (HA.out _ he8).mono ?_; rintro e w9 ⟨rfl, hb9⟩; obtain ⟨_, _, hb9'⟩ := box2 (bth hb8 hb9)))
    go_ret
    exact ⟨rfl, hb9'⟩
set_option maxRecDepth 100000 in
set_option maxHeartbeats 8000000 in
theorem linesJoin_far (a b : ByteArray) (p q : Int) (w : World) (hE : Env w) (hsa : a.size ≤ 200) (hsb : b.size ≤ 200) (hva : validD a.data.toList = true) (hvb : validD b.data.toList = true) (hq : q ≤ 9223372036854775807) (hp : p < 0 ∨ 1000 < p) (hpp : -9223372036854775808 ≤ p ∧ p ≤ 9223372036854775807) :
    Calls Tryd.prog 5 #[.string a, .string b, .agg #[.int .i64 p, .int .i64 q]] w (BoolPost true w) := by
  have cA := fun w' hE => alive05_any w' hE
  have HA := Lib.hid cA
  have HE := Lib.hid hE
  have hvz : validD (zB a b).data.toList = true := by
    rw [zB_data, validD_append _ _ hva]
    show validD ([10] ++ b.data.toList) = true
    rw [validD_append [10] _ (by decide)]
    exact hvb
  have hzs := zB_size a b
  have cx := fun w' hT => linNew_right a w' (by omega) hva hT
  have cy := fun w' hT => linNew_right b w' (by omega) hvb hT
  have cz : ∀ w', Tabs w' → Calls Tryd.prog 14 #[.string (a ++ (⟨#[10]⟩ : ByteArray) ++ b)] w' (fun e w'' => ∃ b', e = .returned (.tuple #[.pointer (some ⟨b', 0, none⟩), .int .i64 0]) ∧ Ix w'' b' (zB a b) ∧ w'.heap.size ≤ b' ∧ Below w'.heap.size w' w'') := fun w' hT => linNew_right (zB a b) w' (by omega) hvz hT
  have HX := Lib.hid cx
  have HY := Lib.hid cy
  have HZ := Lib.hid cz
  obtain ⟨na, hna⟩ : ∃ n, n = nLines a.data.toList := ⟨_, rfl⟩
  obtain ⟨nb, hnb⟩ : ∃ n, n = nLines b.data.toList := ⟨_, rfl⟩
  have hnz : nLines (zB a b).data.toList = na + nb := by rw [zB_data, nLines_join, hna, hnb]
  have lx : ∀ b' w', Ix w' b' a → Calls Tryd.prog 16 #[.pointer (some ⟨b', 0, none⟩)] w' (fun e w'' => e = .returned (.int .i64 (na : Nat)) ∧ w'' = w') := fun b' w' h => by rw [hna]; exact linLines_same b' a w' h
  have ly : ∀ b' w', Ix w' b' b → Calls Tryd.prog 16 #[.pointer (some ⟨b', 0, none⟩)] w' (fun e w'' => e = .returned (.int .i64 (nb : Nat)) ∧ w'' = w') := fun b' w' h => by rw [hnb]; exact linLines_same b' b w' h
  have lz : ∀ b' w', Ix w' b' (zB a b) → Calls Tryd.prog 16 #[.pointer (some ⟨b', 0, none⟩)] w' (fun e w'' => e = .returned (.int .i64 ((na : Int) + (nb : Int))) ∧ w'' = w') := fun b' w' h => by
    have := linLines_same b' (zB a b) w' h
    rw [hnz] at this
    exact this
  have LX := Lib.hid lx
  have LY := Lib.hid ly
  have LZ := Lib.hid lz
  have hna1 := nLines_le a (by omega)
  have hnb1 := nLines_le b (by omega)
  rw [← hna] at hna1
  rw [← hnb] at hnb1
  have hnb2 := starts_le b.data.toList
  rw [starts_length, ← size_eq] at hnb2
  have hk : offP b.data.toList p q = (0, 51) := by
    unfold offP
    rw [if_neg]
    unfold nLines
    omega
  obtain ⟨⟨xo, xe⟩, hj⟩ : ∃ z, z = offP a.data.toList p q := ⟨_, rfl⟩
  obtain ⟨⟨zo, ze⟩, hz⟩ : ∃ z, z = offP (zB a b).data.toList p q := ⟨_, rfl⟩
  have oz : ∀ (L : Int) b' w', Ix w' b' (zB a b) → Env w' → Calls Tryd.prog 18 #[.pointer (some ⟨b', 0, none⟩), .agg #[.int .i64 L, .int .i64 q]] w' (Post2 (offP (zB a b).data.toList L q) w') := fun L b' w' hx he => linOffset_any b' (zB a b) L q w' (by omega) hvz hq hx he
  have ox' : ∀ b' w', Ix w' b' a → Env w' → Calls Tryd.prog 18 #[.pointer (some ⟨b', 0, none⟩), .agg #[.int .i64 p, .int .i64 q]] w' (Lit2 (xo : Nat) (xe : Nat) w') := fun b' w' hx he => (linOffset_any b' a p q w' (by omega) hva hq hx he).mono (post2_lit hj.symm)
  have oy' : ∀ b' w', Ix w' b' b → Env w' → Calls Tryd.prog 18 #[.pointer (some ⟨b', 0, none⟩), .agg #[.int .i64 p, .int .i64 q]] w' (Lit2 (0 : Nat) (51 : Nat) w') := fun b' w' hx he => (linOffset_any b' b p q w' (by omega) hvb hq hx he).mono (post2_lit hk)
  have oz2 : ∀ b' w', Ix w' b' (zB a b) → Env w' → Calls Tryd.prog 18 #[.pointer (some ⟨b', 0, none⟩), .agg #[.int .i64 p, .int .i64 q]] w' (Lit2 (zo : Nat) (ze : Nat) w') := fun b' w' hx he => (oz p b' w' hx he).mono (post2_lit hz.symm)
  obtain ⟨L, hL⟩ : ∃ L, L = IntKind.i64.wrap (p + (na : Int)) := ⟨_, rfl⟩
  obtain ⟨⟨lo, le⟩, hlo⟩ : ∃ z, z = offP (zB a b).data.toList L q := ⟨_, rfl⟩
  have oz' : ∀ b' w', Ix w' b' (zB a b) → Env w' → Calls Tryd.prog 18 #[.pointer (some ⟨b', 0, none⟩), .agg #[.int .i64 L, .int .i64 q]] w' (Lit2 (lo : Nat) (le : Nat) w') := fun b' w' hx he => (oz L b' w' hx he).mono (post2_lit hlo.symm)
  have HW := Lib.hid hL
  have OY := Lib.hid oy'
  have OX := Lib.hid ox'
  have OR := Lib.hid oz'
  have OZ := Lib.hid oz2
  have hla := decide_eq_false (p := (200 : Int) < (a.size : Int)) (by omega)
  have hlb := decide_eq_false (p := (200 : Int) < (b.size : Int)) (by omega)
  clear cA hE hva hvb hvz cx cy cz hna hnb hnz lx ly lz hzs oz ox' oy' oz2 oz' hL hlo hz hj hk hnb2
  by_cases hneg : p < 0
  · clear hp
    go_enter Tryd.func5, Tryd.ntmps5
    go_wp2_with (first
      | (go_at_call 14; (with_reducible refine (HZ.out _ ?_).mono ?_); exact he2.1; rintro e w3 ⟨bz, rfl, hz3, hgz, hb3⟩; have he3 := he2.below hb3; have hx3 := hx2.below hb3; have hy3 := hy2.below hb3; replace hb3 := bth hb2 hb3; obtain ⟨hc0, hc1, _⟩ := box2 hb3)
      | (go_at_call 14; (with_reducible refine (HY.out _ ?_).mono ?_); exact he1.1; rintro e w2 ⟨bY, rfl, hy2, hgy, hb2⟩; have he2 := he1.below hb2; have hx2 := hx1.below hb2; replace hb2 := bth hb1 hb2)
      | (go_at_call 14; (with_reducible refine (HX.out _ ?_).mono ?_); exact (HE.out.below (bal w _)).1; rintro e w1 ⟨bx, rfl, hx1, hge, hb1⟩; have he1 := HE.out.below (bth (bal w _) hb1))
      | (go_at_call 16; (with_reducible refine (LZ.out _ _ hz3).mono ?_); rintro e w4 ⟨rfl, rfl⟩)
      | (go_at_call 16; (with_reducible refine (LX.out _ _ hx3).mono ?_); rintro e w4 ⟨rfl, rfl⟩)
      | (go_at_call 16; (with_reducible refine (LY.out _ _ hy3).mono ?_); rintro e w4 ⟨rfl, rfl⟩)
      | (go_at_call 18; (with_reducible refine (OY.out _ _ hy3 he3).mono ?_); rintro e w5 ⟨rfl, hb5⟩; have he5 := he3.below hb5; have hx5 := hx3.below hb5; have hz5 := hz3.below hb5; replace hb5 := bth hb3 hb5; obtain ⟨hd0, hd1, _⟩ := box2 hb5))
    go_region_held3 (fun w' => w'.cell? ⟨w.heap.size, 0, none⟩ = some (.int .i64 p) ∧ w'.cell? ⟨w.heap.size, 1, none⟩ = some (.int .i64 q)) (first | exact ⟨hd0, hd1⟩ | exact ⟨hf0, hf1⟩) (first
      | (go_at_call 16; (with_reducible refine (LX.out _ _ ?_).mono ?_); exact hx5.drew; rintro e w4 ⟨rfl, rfl⟩)
      | (go_at_call 18; rw [← HW.out]; (with_reducible refine (OR.out _ _ ?_ ?_).mono ?_); exact hz5.drew; exact he5.drew; rintro e w6 ⟨rfl, hb6⟩; replace hb6 := bdr hb6; have he6 := he5.below hb6; have hx6 := hx5.below hb6; have hz6 := hz5.below hb6; replace hb6 := bth hb5 hb6; obtain ⟨hf0, hf1, _⟩ := box2 hb6))
    go_wp2_with (first
      | (go_at_call 18; (with_reducible refine (OX.out _ _ hx6 he6).mono ?_); rintro e w7 ⟨rfl, hb7⟩; have he7 := he6.below hb7; have hz7 := hz6.below hb7; replace hb7 := bth hb6 hb7; obtain ⟨hg0, hg1, _⟩ := box2 hb7)
      | (go_at_call 18; (with_reducible refine (OZ.out _ _ hz7 he7).mono ?_); rintro e w8 ⟨rfl, hb8⟩; have he8 := he7.below hb8; replace hb8 := bth hb7 hb8; obtain ⟨hh0, hh1, _⟩ := box2 hb8)
      | (go_at_call 12; refine (HA.out _ he8).mono ?_; rintro e w9 ⟨rfl, hb9⟩; obtain ⟨_, _, hb9'⟩ := box2 (bth hb8 hb9)))
    go_ret
    exact ⟨rfl, hb9'⟩
  · have hgt : 1000 < p := by omega
    have hneg' : decide (p < 0) = false := decide_eq_false hneg
    clear hp hneg
    go_enter Tryd.func5, Tryd.ntmps5
    go_wp2_with (first
      | (go_at_call 14; (with_reducible refine (HZ.out _ ?_).mono ?_); exact he2.1; rintro e w3 ⟨bz, rfl, hz3, hgz, hb3⟩; have he3 := he2.below hb3; have hx3 := hx2.below hb3; have hy3 := hy2.below hb3; replace hb3 := bth hb2 hb3; obtain ⟨hc0, hc1, _⟩ := box2 hb3)
      | (go_at_call 14; (with_reducible refine (HY.out _ ?_).mono ?_); exact he1.1; rintro e w2 ⟨bY, rfl, hy2, hgy, hb2⟩; have he2 := he1.below hb2; have hx2 := hx1.below hb2; replace hb2 := bth hb1 hb2)
      | (go_at_call 14; (with_reducible refine (HX.out _ ?_).mono ?_); exact (HE.out.below (bal w _)).1; rintro e w1 ⟨bx, rfl, hx1, hge, hb1⟩; have he1 := HE.out.below (bth (bal w _) hb1))
      | (go_at_call 16; (with_reducible refine (LZ.out _ _ hz3).mono ?_); rintro e w4 ⟨rfl, rfl⟩)
      | (go_at_call 16; (with_reducible refine (LX.out _ _ hx3).mono ?_); rintro e w4 ⟨rfl, rfl⟩)
      | (go_at_call 16; (with_reducible refine (LY.out _ _ hy3).mono ?_); rintro e w4 ⟨rfl, rfl⟩)
      | (go_at_call 18; (with_reducible refine (OY.out _ _ hy3 he3).mono ?_); rintro e w5 ⟨rfl, hb5⟩; have he5 := he3.below hb5; have hx5 := hx3.below hb5; have hz5 := hz3.below hb5; replace hb5 := bth hb3 hb5; obtain ⟨hd0, hd1, _⟩ := box2 hb5))
    go_region_held3 (fun w' => w'.cell? ⟨w.heap.size, 0, none⟩ = some (.int .i64 p) ∧ w'.cell? ⟨w.heap.size, 1, none⟩ = some (.int .i64 q)) (first | exact ⟨hd0, hd1⟩ | exact ⟨hf0, hf1⟩) (first
      | (go_at_call 16; (with_reducible refine (LX.out _ _ ?_).mono ?_); exact hx5.drew; rintro e w4 ⟨rfl, rfl⟩)
      | (go_at_call 18; rw [← HW.out]; (with_reducible refine (OR.out _ _ ?_ ?_).mono ?_); exact hz5.drew; exact he5.drew; rintro e w6 ⟨rfl, hb6⟩; replace hb6 := bdr hb6; have he6 := he5.below hb6; have hx6 := hx5.below hb6; have hz6 := hz5.below hb6; replace hb6 := bth hb5 hb6; obtain ⟨hf0, hf1, _⟩ := box2 hb6))
    go_wp2_with (first
      | (go_at_call 18; (with_reducible refine (OX.out _ _ hx6 he6).mono ?_); rintro e w7 ⟨rfl, hb7⟩; have he7 := he6.below hb7; have hz7 := hz6.below hb7; replace hb7 := bth hb6 hb7; obtain ⟨hg0, hg1, _⟩ := box2 hb7)
      | (go_at_call 18; (with_reducible refine (OZ.out _ _ hz7 he7).mono ?_); rintro e w8 ⟨rfl, hb8⟩; have he8 := he7.below hb8; replace hb8 := bth hb7 hb8; obtain ⟨hh0, hh1, _⟩ := box2 hb8)
      | (go_at_call 12; refine (HA.out _ he8).mono ?_; rintro e w9 ⟨rfl, hb9⟩; obtain ⟨_, _, hb9'⟩ := box2 (bth hb8 hb9)))
    go_ret
    exact ⟨rfl, hb9'⟩
theorem linesJoin_any (a b : ByteArray) (p q : Int) (w : World) (hE : Env w) (hsa : a.size ≤ 4194304) (hsb : b.size ≤ 4194304) (hpp : -9223372036854775808 ≤ p ∧ p ≤ 9223372036854775807) (hq : q ≤ 9223372036854775807) :
    Calls Tryd.prog 5 #[.string a, .string b, .agg #[.int .i64 p, .int .i64 q]] w (BoolPost true w) := by
  by_cases h : a.size ≤ 200 ∧ b.size ≤ 200 ∧ validD a.data.toList = true ∧ validD b.data.toList = true
  · obtain ⟨h1, h2, h3, h4⟩ := h
    by_cases hp : 0 ≤ p ∧ p ≤ 1000
    · exact linesJoin_on a b p q w hE h1 h2 h3 h4 hq hp
    · exact linesJoin_far a b p q w hE h1 h2 h3 h4 hq (by omega) hpp
  · exact linesJoin_off a b p q w hE hsa hsb h
end Go.Proofs.YtadkjeefiacdbaaDoor
