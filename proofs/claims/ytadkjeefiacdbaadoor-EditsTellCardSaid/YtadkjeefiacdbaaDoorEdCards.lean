/-
  THE CARDS OF LAYER 6: EditsApply, EditsTell, EditsBack, EditsParts, EditsLong hold for every input. Conditions: none beyond the rows' own (the two tables of the library's lie as its text lays them, tied by the given ties).
-/
import Derived.Test.YtadkjeefiacdbaaDoorCards
import Derived.Test.YtadkjeefiacdbaaDoorTie
import Derived.Test.YtadkjeefiacdbaaDoorEdN
import Derived.Test.YtadkjeefiacdbaaDoorEdP
import Derived.Test.YtadkjeefiacdbaaDoorEdQ
set_option linter.unusedVariables false
namespace Go.Proofs.YtadkjeefiacdbaaDoor
open Go.ChangeShapes Go.WideShapes Go.ChangeAt Go.RowKit Go.Shelf Go.Lib
open Go.ChangeMaps (open_string shut_string)

/-! ### EditsApply -/
set_option maxRecDepth 100000 in
theorem editsApply_lifted (os : Os) (started : os.Started) (H : Type) (enc : TypeId × Value → H) (F : Stop.Interp) :
    ReturnsInHanded {} Tryd.checked os 7 .any ((OpenSpec.ofChange Rows.editsApplySpec).preRow enc Tryd.prog Tryd.f7 Rows.editsApplyRow.domain false Rows.editsApplyRow.laid) (((OpenSpec.ofChange Rows.editsApplySpec).at F).post enc Tryd.prog Tryd.f7 false true false false) := by
  refine returnsInHanded_of_row (C := Tryd.checked) (s := OpenSpec.ofChange Rows.editsApplySpec) own started (by kernel_rfl) Tryd.func7
    (wit_row (enc := enc) (C := Tryd.checked) (os := os) false (World.laidAll Tryd.prog os Rows.editsApplyRow.laid) #[.string ⟨#[]⟩, .slice none 0 0] (World.laidAll_os _ _ _)
      (World.shaped_of_ZipB (by kernel_rfl) (by kernel_rfl)) (by kernel_rfl)
      (OpenSpec.preRow_of_cond 8 (x := ([.lit (.string []), .nil], [], [])) (by kernel_rfl) (by kernel_rfl) (fun k hk => by cases hk) (by kernel_rfl)
        (by rw [MakeChecks.laidMetH_plain _ _ _ (by kernel_rfl)]; exact laidMet_laidAll _ (by kernel_rfl) (by kernel_rfl)))) ?_
  intro W base args ds gs before hval0 hW _ hcond hsz hL hshape _
  rw [MakeChecks.laidMetH_plain _ _ _ (by kernel_rfl)] at hL
  have hE : Env W := ⟨tabs_of hL, maxLen_cell hshape⟩
  have hval : ∀ (j : Nat) t v, Tryd.f7.params[j]? = some t → args[j]? = some v → Value.okWide Tryd.prog W .any base t v := hval0
  have hW' := hW
  obtain ⟨p, q, hA0, hV, rfl, _, _⟩ := hW
  have hA : DataW.TrodAll enc Tryd.prog W 0 (fun _ => true) true Tryd.f7.params.toList args.toList ds p := hA0
  have hpar : ∀ t ∈ Tryd.f7.params.toList, Tryd.prog.readableRec t = true ∧ t < Tryd.prog.types.size := by
    rw [Tryd.params7]
    have hall : ([9, 46].all fun u => Tryd.prog.readableRec u && decide (u < Tryd.prog.types.size)) = true := by kernel_rfl
    intro t ht
    have := List.all_eq_true.1 hall t (by simpa using ht)
    simpa using this
  rw [Tryd.params7] at hA hval hsz
  obtain ⟨v0, v1, d0, d1, p0, p1, rfl, rfl, rfl, h0, h1⟩ := trodAll_two hA
  obtain ⟨rfl, rfl⟩ := trodVars_none hV
  obtain ⟨s0, rfl, rfl, rfl, ws0⟩ := open_string Tryd.underlying9 (hval 0 9 v0 rfl rfl) h0
  have z0 : s0.size ≤ 140737488355328 := sized_str hsz (j := 0) rfl rfl
  obtain ⟨a1, len1, cap1, rfl⟩ := okWide_slice Tryd.underlying46 (hval 1 46 v1 rfl rfl)
  obtain ⟨fuel1, hf1⟩ := h1
  obtain ⟨hlc1, hcap1, l1, rfl, hr1, hin1, hdat1⟩ := edits_cells (by simpa [Value.cells] using hf1)
  have hw1 : l1.length ≤ 140737488355328 ∧ ∀ e ∈ l1, e.Wide := by
    rcases hdat1 with ⟨rfl, _⟩ | ⟨elems, sp, hd, hle, hel⟩
    · exact ⟨Nat.zero_le _, fun e he => by cases he⟩
    · have hd' : d1 = .slice elems sp := hd
      have hz := sized_edits hsz (j := 1) (elems := elems) (spare := sp) rfl (by rw [hd']; rfl)
      refine ⟨by rw [← hle]; exact hz.1, fun e he => ⟨(hin1 e he).fu.2, (hin1 e he).tu.2, ?_⟩⟩
      obtain ⟨d1, d2, hm⟩ := hel e he
      have := hz.2 d1 d2 _ hm
      rw [Array.length_toList] at this
      exact this
  refine (editsApply_any s0 a1 cap1 l1 W z0 hw1.1 hw1.2 hr1 hE).mono ?_
  rintro e W' ⟨rfl, hbel⟩
  exact ⟨_, rfl, law_post (s := Rows.editsApplySpec) rfl rfl Tryd.underlying4 (by kernel_rfl) hpar hW' rfl hbel⟩

theorem editsApply_said : Rows.EditsApplySaid :=
  OpenClaim.holds_of_cond 7 Tryd.f7 rfl rfl rfl rfl rfl rfl rfl ⟨rfl, rfl, rfl, rfl, rfl⟩ rfl rfl rfl rfl rfl (by kernel_rfl) Tryd.func7 (by kernel_rfl)
    (of_decide_eq_true (by kernel_rfl)) (by unfold Func.isWrapper; first | (rw [if_pos (by decide +kernel)]; kernel_rfl) | (rw [if_neg (by decide +kernel)]; exact ⟨rfl, rfl⟩))
    (fun os started H enc _ F => by rw [OpenClaim.pre_eq_preRow]; exact editsApply_lifted os started H enc F)
theorem editsApply_plain (f : FuncId) (fn : Func) (hf : Tryd.pinned.checked.prog.funcNamed Rows.editsApplyRow.func = some f) (hfn : Tryd.pinned.checked.prog.funcs[f]? = some fn) :
    false = Tryd.pinned.checked.prog.looks [] ∧ ∀ (j : Nat) t, fn.params[j]? = some t → Tryd.pinned.checked.prog.wantsStandIn t = false := by
  obtain rfl : f = 7 := Option.some.inj ((show Tryd.prog.funcNamed Rows.editsApplyRow.func = some 7 by kernel_rfl).symm.trans hf) |>.symm
  obtain rfl : fn = Tryd.f7 := (Option.some.inj (Tryd.func7.symm.trans hfn)).symm
  refine ⟨by kernel_rfl, fun j t ht => ?_⟩
  rw [Tryd.params7] at ht
  have hm : t ∈ [9, 46] := by simpa using Array.mem_of_getElem? ht
  have hall : ([9, 46].all fun u => !Tryd.prog.wantsStandIn u) = true := by kernel_rfl
  exact (show Tryd.prog.wantsStandIn t = false by simpa using List.all_eq_true.1 hall t hm)
/-- EditsApply, the card. -/
theorem editsApply_card : Rows.EditsApplyCardSaid :=
  Claim7.holds_tied_plain_at .later [] _ _ _ _ editsApply_said (fun _ h => by cases h) (by kernel_rfl) (fun _ h => by cases h) editsApply_row_tie rfl ⟨rfl, rfl⟩ (by kernel_rfl) rfl editsApply_plain (by kernel_rfl)

/-! ### EditsTell -/
set_option maxRecDepth 100000 in
theorem editsTell_lifted (os : Os) (started : os.Started) (H : Type) (enc : TypeId × Value → H) (F : Stop.Interp) :
    ReturnsInHanded {} Tryd.checked os 8 .any ((OpenSpec.ofChange Rows.editsTellSpec).preRow enc Tryd.prog Tryd.f8 Rows.editsTellRow.domain false Rows.editsTellRow.laid) (((OpenSpec.ofChange Rows.editsTellSpec).at F).post enc Tryd.prog Tryd.f8 false true false false) := by
  refine returnsInHanded_of_row (C := Tryd.checked) (s := OpenSpec.ofChange Rows.editsTellSpec) own started (by kernel_rfl) Tryd.func8
    (wit_row (enc := enc) (C := Tryd.checked) (os := os) false (World.laidAll Tryd.prog os Rows.editsTellRow.laid) #[.string ⟨#[]⟩, .string ⟨#[]⟩, .agg #[.int .i64 0, .int .i64 0, .int .i64 0, .int .i64 0, .string ⟨#[]⟩, .int .i64 0]] (World.laidAll_os _ _ _)
      (World.shaped_of_ZipB (by kernel_rfl) (by kernel_rfl)) (by kernel_rfl)
      (OpenSpec.preRow_of_cond 8 (x := ([.lit (.string []), .lit (.string []), .agg [.agg [.agg [.lit (.int .i64 0), .lit (.int .i64 0)], .agg [.lit (.int .i64 0), .lit (.int .i64 0)], .lit (.string [])], .lit (.int .i64 0)]], [], [])) (by kernel_rfl) (by kernel_rfl) (fun k hk => by cases hk) (by kernel_rfl)
        (by rw [MakeChecks.laidMetH_plain _ _ _ (by kernel_rfl)]; exact laidMet_laidAll _ (by kernel_rfl) (by kernel_rfl)))) ?_
  intro W base args ds gs before hval0 hW _ hcond hsz hL hshape _
  rw [MakeChecks.laidMetH_plain _ _ _ (by kernel_rfl)] at hL
  have hE : Env W := ⟨tabs_of hL, maxLen_cell hshape⟩
  have hval : ∀ (j : Nat) t v, Tryd.f8.params[j]? = some t → args[j]? = some v → Value.okWide Tryd.prog W .any base t v := hval0
  have hW' := hW
  obtain ⟨p, q, hA0, hV, rfl, _, _⟩ := hW
  have hA : DataW.TrodAll enc Tryd.prog W 0 (fun _ => true) true Tryd.f8.params.toList args.toList ds p := hA0
  have hpar : ∀ t ∈ Tryd.f8.params.toList, Tryd.prog.readableRec t = true ∧ t < Tryd.prog.types.size := by
    rw [Tryd.params8]
    have hall : ([9, 9, 53].all fun u => Tryd.prog.readableRec u && decide (u < Tryd.prog.types.size)) = true := by kernel_rfl
    intro t ht
    have := List.all_eq_true.1 hall t (by simpa using ht)
    simpa using this
  rw [Tryd.params8] at hA hval hsz
  obtain ⟨v0, v1, v2, d0, d1, d2, p0, p1, p2, rfl, rfl, rfl, h0, h1, h2⟩ := trodAll_three hA
  obtain ⟨rfl, rfl⟩ := trodVars_none hV
  obtain ⟨s0, rfl, rfl, rfl, ws0⟩ := open_string Tryd.underlying9 (hval 0 9 v0 rfl rfl) h0
  have z0 : s0.size ≤ 140737488355328 := sized_str hsz (j := 0) rfl rfl
  obtain ⟨s1, rfl, rfl, rfl, ws1⟩ := open_string Tryd.underlying9 (hval 1 9 v1 rfl rfl) h1
  have z1 : s1.size ≤ 140737488355328 := sized_str hsz (j := 1) rfl rfl
  obtain ⟨e2, x2, dd1, dd2, dd3, rfl, in2, ix2, hd2⟩ := open_point (hval 2 53 v2 rfl rfl) h2
  have y2 : e2.t.size ≤ 140737488355328 := by
    have := sized_point hsz (j := 2) (d1 := dd1) (d2 := dd2) (d3 := dd3) (bytes := e2.t.data.toList) rfl (by rw [hd2]; rfl)
    rw [Array.length_toList] at this
    exact this
  refine (editsTell_any s0 s1 e2.fl e2.fu e2.tl e2.tu e2.t x2 W z0 z1 y2 in2.fu.2 in2.tu.2 ix2 hE).mono ?_
  rintro e W' ⟨rfl, hbel⟩
  exact ⟨_, rfl, law_post (s := Rows.editsTellSpec) rfl rfl Tryd.underlying4 (by kernel_rfl) hpar hW' rfl hbel⟩

theorem editsTell_said : Rows.EditsTellSaid :=
  OpenClaim.holds_of_cond 8 Tryd.f8 rfl rfl rfl rfl rfl rfl rfl ⟨rfl, rfl, rfl, rfl, rfl⟩ rfl rfl rfl rfl rfl (by kernel_rfl) Tryd.func8 (by kernel_rfl)
    (of_decide_eq_true (by kernel_rfl)) (by unfold Func.isWrapper; first | (rw [if_pos (by decide +kernel)]; kernel_rfl) | (rw [if_neg (by decide +kernel)]; exact ⟨rfl, rfl⟩))
    (fun os started H enc _ F => by rw [OpenClaim.pre_eq_preRow]; exact editsTell_lifted os started H enc F)
theorem editsTell_plain (f : FuncId) (fn : Func) (hf : Tryd.pinned.checked.prog.funcNamed Rows.editsTellRow.func = some f) (hfn : Tryd.pinned.checked.prog.funcs[f]? = some fn) :
    false = Tryd.pinned.checked.prog.looks [] ∧ ∀ (j : Nat) t, fn.params[j]? = some t → Tryd.pinned.checked.prog.wantsStandIn t = false := by
  obtain rfl : f = 8 := Option.some.inj ((show Tryd.prog.funcNamed Rows.editsTellRow.func = some 8 by kernel_rfl).symm.trans hf) |>.symm
  obtain rfl : fn = Tryd.f8 := (Option.some.inj (Tryd.func8.symm.trans hfn)).symm
  refine ⟨by kernel_rfl, fun j t ht => ?_⟩
  rw [Tryd.params8] at ht
  have hm : t ∈ [9, 9, 53] := by simpa using Array.mem_of_getElem? ht
  have hall : ([9, 9, 53].all fun u => !Tryd.prog.wantsStandIn u) = true := by kernel_rfl
  exact (show Tryd.prog.wantsStandIn t = false by simpa using List.all_eq_true.1 hall t hm)
/-- EditsTell, the card. -/
theorem editsTell_card : Rows.EditsTellCardSaid :=
  Claim7.holds_tied_plain_at .later [] _ _ _ _ editsTell_said (fun _ h => by cases h) (by kernel_rfl) (fun _ h => by cases h) editsTell_row_tie rfl ⟨rfl, rfl⟩ (by kernel_rfl) rfl editsTell_plain (by kernel_rfl)

/-! ### EditsBack -/
set_option maxRecDepth 100000 in
theorem editsBack_lifted (os : Os) (started : os.Started) (H : Type) (enc : TypeId × Value → H) (F : Stop.Interp) :
    ReturnsInHanded {} Tryd.checked os 9 .any ((OpenSpec.ofChange Rows.editsBackSpec).preRow enc Tryd.prog Tryd.f9 Rows.editsBackRow.domain false Rows.editsBackRow.laid) (((OpenSpec.ofChange Rows.editsBackSpec).at F).post enc Tryd.prog Tryd.f9 false true false false) := by
  refine returnsInHanded_of_row (C := Tryd.checked) (s := OpenSpec.ofChange Rows.editsBackSpec) own started (by kernel_rfl) Tryd.func9
    (wit_row (enc := enc) (C := Tryd.checked) (os := os) false (World.laidAll Tryd.prog os Rows.editsBackRow.laid) #[.string ⟨#[]⟩, .string ⟨#[]⟩] (World.laidAll_os _ _ _)
      (World.shaped_of_ZipB (by kernel_rfl) (by kernel_rfl)) (by kernel_rfl)
      (OpenSpec.preRow_of_cond 8 (x := ([.lit (.string []), .lit (.string [])], [], [])) (by kernel_rfl) (by kernel_rfl) (fun k hk => by cases hk) (by kernel_rfl)
        (by rw [MakeChecks.laidMetH_plain _ _ _ (by kernel_rfl)]; exact laidMet_laidAll _ (by kernel_rfl) (by kernel_rfl)))) ?_
  intro W base args ds gs before hval0 hW _ hcond hsz hL hshape _
  rw [MakeChecks.laidMetH_plain _ _ _ (by kernel_rfl)] at hL
  have hE : Env W := ⟨tabs_of hL, maxLen_cell hshape⟩
  have hval : ∀ (j : Nat) t v, Tryd.f9.params[j]? = some t → args[j]? = some v → Value.okWide Tryd.prog W .any base t v := hval0
  have hW' := hW
  obtain ⟨p, q, hA0, hV, rfl, _, _⟩ := hW
  have hA : DataW.TrodAll enc Tryd.prog W 0 (fun _ => true) true Tryd.f9.params.toList args.toList ds p := hA0
  have hpar : ∀ t ∈ Tryd.f9.params.toList, Tryd.prog.readableRec t = true ∧ t < Tryd.prog.types.size := by
    rw [Tryd.params9]
    have hall : ([9, 9].all fun u => Tryd.prog.readableRec u && decide (u < Tryd.prog.types.size)) = true := by kernel_rfl
    intro t ht
    have := List.all_eq_true.1 hall t (by simpa using ht)
    simpa using this
  rw [Tryd.params9] at hA hval hsz
  obtain ⟨v0, v1, d0, d1, p0, p1, rfl, rfl, rfl, h0, h1⟩ := trodAll_two hA
  obtain ⟨rfl, rfl⟩ := trodVars_none hV
  obtain ⟨s0, rfl, rfl, rfl, ws0⟩ := open_string Tryd.underlying9 (hval 0 9 v0 rfl rfl) h0
  have z0 : s0.size ≤ 140737488355328 := sized_str hsz (j := 0) rfl rfl
  obtain ⟨s1, rfl, rfl, rfl, ws1⟩ := open_string Tryd.underlying9 (hval 1 9 v1 rfl rfl) h1
  have z1 : s1.size ≤ 140737488355328 := sized_str hsz (j := 1) rfl rfl
  refine (editsBack_any s0 s1 W z0 z1 hE).mono ?_
  rintro e W' ⟨rfl, hbel⟩
  exact ⟨_, rfl, law_post (s := Rows.editsBackSpec) rfl rfl Tryd.underlying4 (by kernel_rfl) hpar hW' rfl hbel⟩

theorem editsBack_said : Rows.EditsBackSaid :=
  OpenClaim.holds_of_cond 9 Tryd.f9 rfl rfl rfl rfl rfl rfl rfl ⟨rfl, rfl, rfl, rfl, rfl⟩ rfl rfl rfl rfl rfl (by kernel_rfl) Tryd.func9 (by kernel_rfl)
    (of_decide_eq_true (by kernel_rfl)) (by unfold Func.isWrapper; first | (rw [if_pos (by decide +kernel)]; kernel_rfl) | (rw [if_neg (by decide +kernel)]; exact ⟨rfl, rfl⟩))
    (fun os started H enc _ F => by rw [OpenClaim.pre_eq_preRow]; exact editsBack_lifted os started H enc F)
theorem editsBack_plain (f : FuncId) (fn : Func) (hf : Tryd.pinned.checked.prog.funcNamed Rows.editsBackRow.func = some f) (hfn : Tryd.pinned.checked.prog.funcs[f]? = some fn) :
    false = Tryd.pinned.checked.prog.looks [] ∧ ∀ (j : Nat) t, fn.params[j]? = some t → Tryd.pinned.checked.prog.wantsStandIn t = false := by
  obtain rfl : f = 9 := Option.some.inj ((show Tryd.prog.funcNamed Rows.editsBackRow.func = some 9 by kernel_rfl).symm.trans hf) |>.symm
  obtain rfl : fn = Tryd.f9 := (Option.some.inj (Tryd.func9.symm.trans hfn)).symm
  refine ⟨by kernel_rfl, fun j t ht => ?_⟩
  rw [Tryd.params9] at ht
  have hm : t ∈ [9, 9] := by simpa using Array.mem_of_getElem? ht
  have hall : ([9, 9].all fun u => !Tryd.prog.wantsStandIn u) = true := by kernel_rfl
  exact (show Tryd.prog.wantsStandIn t = false by simpa using List.all_eq_true.1 hall t hm)
/-- EditsBack, the card. -/
theorem editsBack_card : Rows.EditsBackCardSaid :=
  Claim7.holds_tied_plain_at .later [] _ _ _ _ editsBack_said (fun _ h => by cases h) (by kernel_rfl) (fun _ h => by cases h) editsBack_row_tie rfl ⟨rfl, rfl⟩ (by kernel_rfl) rfl editsBack_plain (by kernel_rfl)

/-! ### EditsParts -/
set_option maxRecDepth 100000 in
theorem editsParts_lifted (os : Os) (started : os.Started) (H : Type) (enc : TypeId × Value → H) (F : Stop.Interp) :
    ReturnsInHanded {} Tryd.checked os 10 .any ((OpenSpec.ofChange Rows.editsPartsSpec).preRow enc Tryd.prog Tryd.f10 Rows.editsPartsRow.domain false Rows.editsPartsRow.laid) (((OpenSpec.ofChange Rows.editsPartsSpec).at F).post enc Tryd.prog Tryd.f10 false true false false) := by
  refine returnsInHanded_of_row (C := Tryd.checked) (s := OpenSpec.ofChange Rows.editsPartsSpec) own started (by kernel_rfl) Tryd.func10
    (wit_row (enc := enc) (C := Tryd.checked) (os := os) false (World.laidAll Tryd.prog os Rows.editsPartsRow.laid) #[.string ⟨#[]⟩, .slice none 0 0, .int .i64 0] (World.laidAll_os _ _ _)
      (World.shaped_of_ZipB (by kernel_rfl) (by kernel_rfl)) (by kernel_rfl)
      (OpenSpec.preRow_of_cond 8 (x := ([.lit (.string []), .nil, .lit (.int .i64 0)], [], [])) (by kernel_rfl) (by kernel_rfl) (fun k hk => by cases hk) (by kernel_rfl)
        (by rw [MakeChecks.laidMetH_plain _ _ _ (by kernel_rfl)]; exact laidMet_laidAll _ (by kernel_rfl) (by kernel_rfl)))) ?_
  intro W base args ds gs before hval0 hW _ hcond hsz hL hshape _
  rw [MakeChecks.laidMetH_plain _ _ _ (by kernel_rfl)] at hL
  have hE : Env W := ⟨tabs_of hL, maxLen_cell hshape⟩
  have hval : ∀ (j : Nat) t v, Tryd.f10.params[j]? = some t → args[j]? = some v → Value.okWide Tryd.prog W .any base t v := hval0
  have hW' := hW
  obtain ⟨p, q, hA0, hV, rfl, _, _⟩ := hW
  have hA : DataW.TrodAll enc Tryd.prog W 0 (fun _ => true) true Tryd.f10.params.toList args.toList ds p := hA0
  have hpar : ∀ t ∈ Tryd.f10.params.toList, Tryd.prog.readableRec t = true ∧ t < Tryd.prog.types.size := by
    rw [Tryd.params10]
    have hall : ([9, 46, 3].all fun u => Tryd.prog.readableRec u && decide (u < Tryd.prog.types.size)) = true := by kernel_rfl
    intro t ht
    have := List.all_eq_true.1 hall t (by simpa using ht)
    simpa using this
  rw [Tryd.params10] at hA hval hsz
  obtain ⟨v0, v1, v2, d0, d1, d2, p0, p1, p2, rfl, rfl, rfl, h0, h1, h2⟩ := trodAll_three hA
  obtain ⟨rfl, rfl⟩ := trodVars_none hV
  obtain ⟨s0, rfl, rfl, rfl, ws0⟩ := open_string Tryd.underlying9 (hval 0 9 v0 rfl rfl) h0
  have z0 : s0.size ≤ 140737488355328 := sized_str hsz (j := 0) rfl rfl
  obtain ⟨a1, len1, cap1, rfl⟩ := okWide_slice Tryd.underlying46 (hval 1 46 v1 rfl rfl)
  obtain ⟨fuel1, hf1⟩ := h1
  obtain ⟨hlc1, hcap1, l1, rfl, hr1, hin1, hdat1⟩ := edits_cells (by simpa [Value.cells] using hf1)
  have hw1 : l1.length ≤ 140737488355328 ∧ ∀ e ∈ l1, e.Wide := by
    rcases hdat1 with ⟨rfl, _⟩ | ⟨elems, sp, hd, hle, hel⟩
    · exact ⟨Nat.zero_le _, fun e he => by cases he⟩
    · have hd' : d1 = .slice elems sp := hd
      have hz := sized_edits hsz (j := 1) (elems := elems) (spare := sp) rfl (by rw [hd']; rfl)
      refine ⟨by rw [← hle]; exact hz.1, fun e he => ⟨(hin1 e he).fu.2, (hin1 e he).tu.2, ?_⟩⟩
      obtain ⟨d1, d2, hm⟩ := hel e he
      have := hz.2 d1 d2 _ hm
      rw [Array.length_toList] at this
      exact this
  obtain ⟨x2, rfl, rfl, rfl, wx2⟩ := open_int Tryd.underlying3 (hval 2 3 v2 rfl rfl) h2
  have b2 := bd_int wx2
  refine (editsParts_any s0 a1 cap1 l1 x2 W z0 hw1.1 hlc1 hw1.2 hr1 b2 hE).mono ?_
  rintro e W' ⟨rfl, hbel⟩
  exact ⟨_, rfl, law_post (s := Rows.editsPartsSpec) rfl rfl Tryd.underlying4 (by kernel_rfl) hpar hW' rfl hbel⟩

theorem editsParts_said : Rows.EditsPartsSaid :=
  OpenClaim.holds_of_cond 10 Tryd.f10 rfl rfl rfl rfl rfl rfl rfl ⟨rfl, rfl, rfl, rfl, rfl⟩ rfl rfl rfl rfl rfl (by kernel_rfl) Tryd.func10 (by kernel_rfl)
    (of_decide_eq_true (by kernel_rfl)) (by unfold Func.isWrapper; first | (rw [if_pos (by decide +kernel)]; kernel_rfl) | (rw [if_neg (by decide +kernel)]; exact ⟨rfl, rfl⟩))
    (fun os started H enc _ F => by rw [OpenClaim.pre_eq_preRow]; exact editsParts_lifted os started H enc F)
theorem editsParts_plain (f : FuncId) (fn : Func) (hf : Tryd.pinned.checked.prog.funcNamed Rows.editsPartsRow.func = some f) (hfn : Tryd.pinned.checked.prog.funcs[f]? = some fn) :
    false = Tryd.pinned.checked.prog.looks [] ∧ ∀ (j : Nat) t, fn.params[j]? = some t → Tryd.pinned.checked.prog.wantsStandIn t = false := by
  obtain rfl : f = 10 := Option.some.inj ((show Tryd.prog.funcNamed Rows.editsPartsRow.func = some 10 by kernel_rfl).symm.trans hf) |>.symm
  obtain rfl : fn = Tryd.f10 := (Option.some.inj (Tryd.func10.symm.trans hfn)).symm
  refine ⟨by kernel_rfl, fun j t ht => ?_⟩
  rw [Tryd.params10] at ht
  have hm : t ∈ [9, 46, 3] := by simpa using Array.mem_of_getElem? ht
  have hall : ([9, 46, 3].all fun u => !Tryd.prog.wantsStandIn u) = true := by kernel_rfl
  exact (show Tryd.prog.wantsStandIn t = false by simpa using List.all_eq_true.1 hall t hm)
/-- EditsParts, the card. -/
theorem editsParts_card : Rows.EditsPartsCardSaid :=
  Claim7.holds_tied_plain_at .later [] _ _ _ _ editsParts_said (fun _ h => by cases h) (by kernel_rfl) (fun _ h => by cases h) editsParts_row_tie rfl ⟨rfl, rfl⟩ (by kernel_rfl) rfl editsParts_plain (by kernel_rfl)

/-! ### EditsLong -/
set_option maxRecDepth 100000 in
theorem editsLong_lifted (os : Os) (started : os.Started) (H : Type) (enc : TypeId × Value → H) (F : Stop.Interp) :
    ReturnsInHanded {} Tryd.checked os 11 .any ((OpenSpec.ofChange Rows.editsLongSpec).preRow enc Tryd.prog Tryd.f11 Rows.editsLongRow.domain false Rows.editsLongRow.laid) (((OpenSpec.ofChange Rows.editsLongSpec).at F).post enc Tryd.prog Tryd.f11 false true false false) := by
  refine returnsInHanded_of_row (C := Tryd.checked) (s := OpenSpec.ofChange Rows.editsLongSpec) own started (by kernel_rfl) Tryd.func11
    (wit_row (enc := enc) (C := Tryd.checked) (os := os) false (World.laidAll Tryd.prog os Rows.editsLongRow.laid) #[.int .i64 0] (World.laidAll_os _ _ _)
      (World.shaped_of_ZipB (by kernel_rfl) (by kernel_rfl)) (by kernel_rfl)
      (OpenSpec.preRow_of_cond 8 (x := ([.lit (.int .i64 0)], [], [])) (by kernel_rfl) (by kernel_rfl) (fun k hk => by cases hk) (by kernel_rfl)
        (by rw [MakeChecks.laidMetH_plain _ _ _ (by kernel_rfl)]; exact laidMet_laidAll _ (by kernel_rfl) (by kernel_rfl)))) ?_
  intro W base args ds gs before hval0 hW _ hcond hsz hL hshape _
  rw [MakeChecks.laidMetH_plain _ _ _ (by kernel_rfl)] at hL
  have hE : Env W := ⟨tabs_of hL, maxLen_cell hshape⟩
  have hval : ∀ (j : Nat) t v, Tryd.f11.params[j]? = some t → args[j]? = some v → Value.okWide Tryd.prog W .any base t v := hval0
  have hW' := hW
  obtain ⟨p, q, hA0, hV, rfl, _, _⟩ := hW
  have hA : DataW.TrodAll enc Tryd.prog W 0 (fun _ => true) true Tryd.f11.params.toList args.toList ds p := hA0
  have hpar : ∀ t ∈ Tryd.f11.params.toList, Tryd.prog.readableRec t = true ∧ t < Tryd.prog.types.size := by
    rw [Tryd.params11]
    have hall : ([3].all fun u => Tryd.prog.readableRec u && decide (u < Tryd.prog.types.size)) = true := by kernel_rfl
    intro t ht
    have := List.all_eq_true.1 hall t (by simpa using ht)
    simpa using this
  rw [Tryd.params11] at hA hval hsz
  obtain ⟨v0, d0, rfl, rfl, h0⟩ := trodAll_one hA
  obtain ⟨rfl, rfl⟩ := trodVars_none hV
  obtain ⟨x0, rfl, rfl, rfl, wx0⟩ := open_int Tryd.underlying3 (hval 0 3 v0 rfl rfl) h0
  have b0 := bd_int wx0
  refine (editsLong_any x0 W hE).mono ?_
  rintro e W' ⟨rfl, hbel⟩
  exact ⟨_, rfl, law_post (s := Rows.editsLongSpec) rfl rfl Tryd.underlying4 (by kernel_rfl) hpar hW' rfl hbel⟩

theorem editsLong_said : Rows.EditsLongSaid :=
  OpenClaim.holds_of_cond 11 Tryd.f11 rfl rfl rfl rfl rfl rfl rfl ⟨rfl, rfl, rfl, rfl, rfl⟩ rfl rfl rfl rfl rfl (by kernel_rfl) Tryd.func11 (by kernel_rfl)
    (of_decide_eq_true (by kernel_rfl)) (by unfold Func.isWrapper; first | (rw [if_pos (by decide +kernel)]; kernel_rfl) | (rw [if_neg (by decide +kernel)]; exact ⟨rfl, rfl⟩))
    (fun os started H enc _ F => by rw [OpenClaim.pre_eq_preRow]; exact editsLong_lifted os started H enc F)
theorem editsLong_plain (f : FuncId) (fn : Func) (hf : Tryd.pinned.checked.prog.funcNamed Rows.editsLongRow.func = some f) (hfn : Tryd.pinned.checked.prog.funcs[f]? = some fn) :
    false = Tryd.pinned.checked.prog.looks [] ∧ ∀ (j : Nat) t, fn.params[j]? = some t → Tryd.pinned.checked.prog.wantsStandIn t = false := by
  obtain rfl : f = 11 := Option.some.inj ((show Tryd.prog.funcNamed Rows.editsLongRow.func = some 11 by kernel_rfl).symm.trans hf) |>.symm
  obtain rfl : fn = Tryd.f11 := (Option.some.inj (Tryd.func11.symm.trans hfn)).symm
  refine ⟨by kernel_rfl, fun j t ht => ?_⟩
  rw [Tryd.params11] at ht
  have hm : t ∈ [3] := by simpa using Array.mem_of_getElem? ht
  have hall : ([3].all fun u => !Tryd.prog.wantsStandIn u) = true := by kernel_rfl
  exact (show Tryd.prog.wantsStandIn t = false by simpa using List.all_eq_true.1 hall t hm)
/-- EditsLong, the card. -/
theorem editsLong_card : Rows.EditsLongCardSaid :=
  Claim7.holds_tied_plain_at .later [] _ _ _ _ editsLong_said (fun _ h => by cases h) (by kernel_rfl) (fun _ h => by cases h) editsLong_row_tie rfl ⟨rfl, rfl⟩ (by kernel_rfl) rfl editsLong_plain (by kernel_rfl)
end Go.Proofs.YtadkjeefiacdbaaDoor
