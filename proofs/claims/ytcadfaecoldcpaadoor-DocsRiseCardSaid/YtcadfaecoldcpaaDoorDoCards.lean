/-
  THE CARDS OF LAYER 7: DocsLong, DocsPlay, DocsRise, DocsRefused hold for every input. Conditions: none beyond the rows' own (the two tables of the library's lie as its text lays them, tied by the given ties).
-/
import Derived.Test.YtcadfaecoldcpaaDoorCards
import Derived.Test.YtcadfaecoldcpaaDoorTie
import Derived.Test.YtcadfaecoldcpaaDoorDoJ
import Derived.Test.YtcadfaecoldcpaaDoorDoO
set_option linter.unusedVariables false
namespace Go.Proofs.YtcadfaecoldcpaaDoor
open Go.ChangeShapes Go.WideShapes Go.ChangeAt Go.RowKit Go.Shelf Go.Lib
open Go.ChangeMaps (open_string shut_string)

/-! ### DocsLong -/
set_option maxRecDepth 100000 in
theorem docsLong_lifted (os : Os) (started : os.Started) (H : Type) (enc : TypeId × Value → H) (F : Stop.Interp) :
    ReturnsInHanded {} Tryd.checked os 6 .any ((OpenSpec.ofChange Rows.docsLongSpec).preRow enc Tryd.prog Tryd.f6 Rows.docsLongRow.domain false Rows.docsLongRow.laid) (((OpenSpec.ofChange Rows.docsLongSpec).at F).post enc Tryd.prog Tryd.f6 false true false false) := by
  refine returnsInHanded_of_row (C := Tryd.checked) (s := OpenSpec.ofChange Rows.docsLongSpec) own started (by kernel_rfl) Tryd.func6
    (wit_row (enc := enc) (C := Tryd.checked) (os := os) false (World.laidAll Tryd.prog os Rows.docsLongRow.laid) #[.int .i64 0, .string ⟨#[]⟩] (World.laidAll_os _ _ _)
      (World.shaped_of_ZipB (by kernel_rfl) (by kernel_rfl)) (by kernel_rfl)
      (OpenSpec.preRow_of_cond 8 (x := ([.lit (.int .i64 0), .lit (.string [])], [], [])) (by kernel_rfl) (by kernel_rfl) (fun k hk => by cases hk) (by kernel_rfl)
        (by rw [MakeChecks.laidMetH_plain _ _ _ (by kernel_rfl)]; exact laidMet_laidAll _ (by kernel_rfl) (by kernel_rfl)))) ?_
  intro W base args ds gs before hval0 hW _ hcond hsz hL hshape _
  rw [MakeChecks.laidMetH_plain _ _ _ (by kernel_rfl)] at hL
  have hE : Env W := ⟨tabs_of hL, maxLen_cell hshape⟩
  have hval : ∀ (j : Nat) t v, Tryd.f6.params[j]? = some t → args[j]? = some v → Value.okWide Tryd.prog W .any base t v := hval0
  have hW' := hW
  obtain ⟨p, q, hA0, hV, rfl, _, _⟩ := hW
  have hA : DataW.TrodAll enc Tryd.prog W 0 (fun _ => true) true Tryd.f6.params.toList args.toList ds p := hA0
  have hpar : ∀ t ∈ Tryd.f6.params.toList, Tryd.prog.readableRec t = true ∧ t < Tryd.prog.types.size := by
    rw [Tryd.params6]
    have hall : ([3, 9].all fun u => Tryd.prog.readableRec u && decide (u < Tryd.prog.types.size)) = true := by kernel_rfl
    intro t ht
    have := List.all_eq_true.1 hall t (by simpa using ht)
    simpa using this
  rw [Tryd.params6] at hA hval hsz
  obtain ⟨v0, v1, d0, d1, p0, p1, rfl, rfl, rfl, h0, h1⟩ := trodAll_two hA
  obtain ⟨rfl, rfl⟩ := trodVars_none hV
  obtain ⟨x0, rfl, rfl, rfl, wx0⟩ := open_int Tryd.underlying3 (hval 0 3 v0 rfl rfl) h0
  have b0 := bd_int wx0
  obtain ⟨s1, rfl, rfl, rfl, ws1⟩ := open_string Tryd.underlying9 (hval 1 9 v1 rfl rfl) h1
  have z1 : s1.size ≤ 140737488355328 := sized_str hsz (j := 1) rfl rfl
  refine (docsLong_any x0 s1 W hE).mono ?_
  rintro e W' ⟨rfl, hbel⟩
  exact ⟨_, rfl, law_post (s := Rows.docsLongSpec) rfl rfl Tryd.underlying4 (by kernel_rfl) hpar hW' rfl hbel⟩

theorem docsLong_said : Rows.DocsLongSaid :=
  OpenClaim.holds_of_cond 6 Tryd.f6 rfl rfl rfl rfl rfl rfl rfl ⟨rfl, rfl, rfl, rfl, rfl⟩ rfl rfl rfl rfl rfl (by kernel_rfl) Tryd.func6 (by kernel_rfl)
    (of_decide_eq_true (by kernel_rfl)) (by unfold Func.isWrapper; first | (rw [if_pos (by decide +kernel)]; kernel_rfl) | (rw [if_neg (by decide +kernel)]; exact ⟨rfl, rfl⟩))
    (fun os started H enc _ F => by rw [OpenClaim.pre_eq_preRow]; exact docsLong_lifted os started H enc F)
theorem docsLong_plain (f : FuncId) (fn : Func) (hf : Tryd.pinned.checked.prog.funcNamed Rows.docsLongRow.func = some f) (hfn : Tryd.pinned.checked.prog.funcs[f]? = some fn) :
    false = Tryd.pinned.checked.prog.looks [] ∧ ∀ (j : Nat) t, fn.params[j]? = some t → Tryd.pinned.checked.prog.wantsStandIn t = false := by
  obtain rfl : f = 6 := Option.some.inj ((show Tryd.prog.funcNamed Rows.docsLongRow.func = some 6 by kernel_rfl).symm.trans hf) |>.symm
  obtain rfl : fn = Tryd.f6 := (Option.some.inj (Tryd.func6.symm.trans hfn)).symm
  refine ⟨by kernel_rfl, fun j t ht => ?_⟩
  rw [Tryd.params6] at ht
  have hm : t ∈ [3, 9] := by simpa using Array.mem_of_getElem? ht
  have hall : ([3, 9].all fun u => !Tryd.prog.wantsStandIn u) = true := by kernel_rfl
  exact (show Tryd.prog.wantsStandIn t = false by simpa using List.all_eq_true.1 hall t hm)
/-- DocsLong, the card. -/
theorem docsLong_card : Rows.DocsLongCardSaid :=
  Claim7.holds_tied_plain_at .later [] _ _ _ _ docsLong_said (fun _ h => by cases h) (by kernel_rfl) (fun _ h => by cases h) docsLong_row_tie rfl ⟨rfl, rfl⟩ (by kernel_rfl) rfl docsLong_plain (by kernel_rfl)

/-! ### DocsPlay -/
set_option maxRecDepth 100000 in
theorem docsPlay_lifted (os : Os) (started : os.Started) (H : Type) (enc : TypeId × Value → H) (F : Stop.Interp) :
    ReturnsInHanded {} Tryd.checked os 4 .any ((OpenSpec.ofChange Rows.docsPlaySpec).preRow enc Tryd.prog Tryd.f4 Rows.docsPlayRow.domain false Rows.docsPlayRow.laid) (((OpenSpec.ofChange Rows.docsPlaySpec).at F).post enc Tryd.prog Tryd.f4 false true false false) := by
  refine returnsInHanded_of_row (C := Tryd.checked) (s := OpenSpec.ofChange Rows.docsPlaySpec) own started (by kernel_rfl) Tryd.func4
    (wit_row (enc := enc) (C := Tryd.checked) (os := os) false (World.laidAll Tryd.prog os Rows.docsPlayRow.laid) #[.slice none 0 0] (World.laidAll_os _ _ _)
      (World.shaped_of_ZipB (by kernel_rfl) (by kernel_rfl)) (by kernel_rfl)
      (OpenSpec.preRow_of_cond 8 (x := ([.nil], [], [])) (by kernel_rfl) (by kernel_rfl) (fun k hk => by cases hk) (by kernel_rfl)
        (by rw [MakeChecks.laidMetH_plain _ _ _ (by kernel_rfl)]; exact laidMet_laidAll _ (by kernel_rfl) (by kernel_rfl)))) ?_
  intro W base args ds gs before hval0 hW _ hcond hsz hL hshape _
  rw [MakeChecks.laidMetH_plain _ _ _ (by kernel_rfl)] at hL
  have hE : Env W := ⟨tabs_of hL, maxLen_cell hshape⟩
  have hval : ∀ (j : Nat) t v, Tryd.f4.params[j]? = some t → args[j]? = some v → Value.okWide Tryd.prog W .any base t v := hval0
  have hW' := hW
  obtain ⟨p, q, hA0, hV, rfl, _, _⟩ := hW
  have hA : DataW.TrodAll enc Tryd.prog W 0 (fun _ => true) true Tryd.f4.params.toList args.toList ds p := hA0
  have hpar : ∀ t ∈ Tryd.f4.params.toList, Tryd.prog.readableRec t = true ∧ t < Tryd.prog.types.size := by
    rw [Tryd.params4]
    have hall : ([22].all fun u => Tryd.prog.readableRec u && decide (u < Tryd.prog.types.size)) = true := by kernel_rfl
    intro t ht
    have := List.all_eq_true.1 hall t (by simpa using ht)
    simpa using this
  rw [Tryd.params4] at hA hval hsz
  obtain ⟨v0, d0, rfl, rfl, h0⟩ := trodAll_one hA
  obtain ⟨rfl, rfl⟩ := trodVars_none hV
  obtain ⟨a0, len0, cap0, rfl⟩ := okWide_slice Tryd.underlying22 (hval 0 22 v0 rfl rfl)
  obtain ⟨fuel0, hf0⟩ := h0
  obtain ⟨l0, rfl, hr0, hin0, hdat0⟩ := acts_cells (by simpa [Value.cells] using hf0)
  have hw0 : l0.length ≤ 140737488355328 ∧ ∀ a ∈ l0, a.Wide := by
    rcases hdat0 with ⟨rfl, _⟩ | ⟨elems, sp, hd, hle, hel⟩
    · exact ⟨Nat.zero_le _, fun e he => by cases he⟩
    · have hd' : d0 = .slice elems sp := hd
      have hz := sized_acts hsz (j := 0) (elems := elems) (sp := sp) rfl (by rw [hd']; rfl)
      refine ⟨by rw [← hle]; exact hz.1, fun a ha => ?_⟩
      obtain ⟨d, hm, hda⟩ := hel a ha
      exact hz.2 d hm a (hin0 a ha) hda
  refine (docsPlay_any a0 cap0 l0 W hE hr0 hw0.2 hw0.1).mono ?_
  rintro e W' ⟨rfl, hbel⟩
  exact ⟨_, rfl, law_post (s := Rows.docsPlaySpec) rfl rfl Tryd.underlying4 (by kernel_rfl) hpar hW' rfl hbel⟩

theorem docsPlay_said : Rows.DocsPlaySaid :=
  OpenClaim.holds_of_cond 4 Tryd.f4 rfl rfl rfl rfl rfl rfl rfl ⟨rfl, rfl, rfl, rfl, rfl⟩ rfl rfl rfl rfl rfl (by kernel_rfl) Tryd.func4 (by kernel_rfl)
    (of_decide_eq_true (by kernel_rfl)) (by unfold Func.isWrapper; first | (rw [if_pos (by decide +kernel)]; kernel_rfl) | (rw [if_neg (by decide +kernel)]; exact ⟨rfl, rfl⟩))
    (fun os started H enc _ F => by rw [OpenClaim.pre_eq_preRow]; exact docsPlay_lifted os started H enc F)
theorem docsPlay_plain (f : FuncId) (fn : Func) (hf : Tryd.pinned.checked.prog.funcNamed Rows.docsPlayRow.func = some f) (hfn : Tryd.pinned.checked.prog.funcs[f]? = some fn) :
    false = Tryd.pinned.checked.prog.looks [] ∧ ∀ (j : Nat) t, fn.params[j]? = some t → Tryd.pinned.checked.prog.wantsStandIn t = false := by
  obtain rfl : f = 4 := Option.some.inj ((show Tryd.prog.funcNamed Rows.docsPlayRow.func = some 4 by kernel_rfl).symm.trans hf) |>.symm
  obtain rfl : fn = Tryd.f4 := (Option.some.inj (Tryd.func4.symm.trans hfn)).symm
  refine ⟨by kernel_rfl, fun j t ht => ?_⟩
  rw [Tryd.params4] at ht
  have hm : t ∈ [22] := by simpa using Array.mem_of_getElem? ht
  have hall : ([22].all fun u => !Tryd.prog.wantsStandIn u) = true := by kernel_rfl
  exact (show Tryd.prog.wantsStandIn t = false by simpa using List.all_eq_true.1 hall t hm)
/-- DocsPlay, the card. -/
theorem docsPlay_card : Rows.DocsPlayCardSaid :=
  Claim7.holds_tied_plain_at .later [] _ _ _ _ docsPlay_said (fun _ h => by cases h) (by kernel_rfl) (fun _ h => by cases h) docsPlay_row_tie rfl ⟨rfl, rfl⟩ (by kernel_rfl) rfl docsPlay_plain (by kernel_rfl)

/-! ### DocsRise -/
set_option maxRecDepth 100000 in
theorem docsRise_lifted (os : Os) (started : os.Started) (H : Type) (enc : TypeId × Value → H) (F : Stop.Interp) :
    ReturnsInHanded {} Tryd.checked os 5 .any ((OpenSpec.ofChange Rows.docsRiseSpec).preRow enc Tryd.prog Tryd.f5 Rows.docsRiseRow.domain false Rows.docsRiseRow.laid) (((OpenSpec.ofChange Rows.docsRiseSpec).at F).post enc Tryd.prog Tryd.f5 false true false false) := by
  refine returnsInHanded_of_row (C := Tryd.checked) (s := OpenSpec.ofChange Rows.docsRiseSpec) own started (by kernel_rfl) Tryd.func5
    (wit_row (enc := enc) (C := Tryd.checked) (os := os) false (World.laidAll Tryd.prog os Rows.docsRiseRow.laid) #[.slice none 0 0] (World.laidAll_os _ _ _)
      (World.shaped_of_ZipB (by kernel_rfl) (by kernel_rfl)) (by kernel_rfl)
      (OpenSpec.preRow_of_cond 8 (x := ([.nil], [], [])) (by kernel_rfl) (by kernel_rfl) (fun k hk => by cases hk) (by kernel_rfl)
        (by rw [MakeChecks.laidMetH_plain _ _ _ (by kernel_rfl)]; exact laidMet_laidAll _ (by kernel_rfl) (by kernel_rfl)))) ?_
  intro W base args ds gs before hval0 hW _ hcond hsz hL hshape _
  rw [MakeChecks.laidMetH_plain _ _ _ (by kernel_rfl)] at hL
  have hE : Env W := ⟨tabs_of hL, maxLen_cell hshape⟩
  have hval : ∀ (j : Nat) t v, Tryd.f5.params[j]? = some t → args[j]? = some v → Value.okWide Tryd.prog W .any base t v := hval0
  have hW' := hW
  obtain ⟨p, q, hA0, hV, rfl, _, _⟩ := hW
  have hA : DataW.TrodAll enc Tryd.prog W 0 (fun _ => true) true Tryd.f5.params.toList args.toList ds p := hA0
  have hpar : ∀ t ∈ Tryd.f5.params.toList, Tryd.prog.readableRec t = true ∧ t < Tryd.prog.types.size := by
    rw [Tryd.params5]
    have hall : ([22].all fun u => Tryd.prog.readableRec u && decide (u < Tryd.prog.types.size)) = true := by kernel_rfl
    intro t ht
    have := List.all_eq_true.1 hall t (by simpa using ht)
    simpa using this
  rw [Tryd.params5] at hA hval hsz
  obtain ⟨v0, d0, rfl, rfl, h0⟩ := trodAll_one hA
  obtain ⟨rfl, rfl⟩ := trodVars_none hV
  obtain ⟨a0, len0, cap0, rfl⟩ := okWide_slice Tryd.underlying22 (hval 0 22 v0 rfl rfl)
  obtain ⟨fuel0, hf0⟩ := h0
  obtain ⟨l0, rfl, hr0, hin0, hdat0⟩ := acts_cells (by simpa [Value.cells] using hf0)
  have hw0 : l0.length ≤ 140737488355328 ∧ ∀ a ∈ l0, a.Wide := by
    rcases hdat0 with ⟨rfl, _⟩ | ⟨elems, sp, hd, hle, hel⟩
    · exact ⟨Nat.zero_le _, fun e he => by cases he⟩
    · have hd' : d0 = .slice elems sp := hd
      have hz := sized_acts hsz (j := 0) (elems := elems) (sp := sp) rfl (by rw [hd']; rfl)
      refine ⟨by rw [← hle]; exact hz.1, fun a ha => ?_⟩
      obtain ⟨d, hm, hda⟩ := hel a ha
      exact hz.2 d hm a (hin0 a ha) hda
  refine (docsRise_any a0 cap0 l0 W hE hr0 hw0.2 hw0.1).mono ?_
  rintro e W' ⟨rfl, hbel⟩
  exact ⟨_, rfl, law_post (s := Rows.docsRiseSpec) rfl rfl Tryd.underlying4 (by kernel_rfl) hpar hW' rfl hbel⟩

theorem docsRise_said : Rows.DocsRiseSaid :=
  OpenClaim.holds_of_cond 5 Tryd.f5 rfl rfl rfl rfl rfl rfl rfl ⟨rfl, rfl, rfl, rfl, rfl⟩ rfl rfl rfl rfl rfl (by kernel_rfl) Tryd.func5 (by kernel_rfl)
    (of_decide_eq_true (by kernel_rfl)) (by unfold Func.isWrapper; first | (rw [if_pos (by decide +kernel)]; kernel_rfl) | (rw [if_neg (by decide +kernel)]; exact ⟨rfl, rfl⟩))
    (fun os started H enc _ F => by rw [OpenClaim.pre_eq_preRow]; exact docsRise_lifted os started H enc F)
theorem docsRise_plain (f : FuncId) (fn : Func) (hf : Tryd.pinned.checked.prog.funcNamed Rows.docsRiseRow.func = some f) (hfn : Tryd.pinned.checked.prog.funcs[f]? = some fn) :
    false = Tryd.pinned.checked.prog.looks [] ∧ ∀ (j : Nat) t, fn.params[j]? = some t → Tryd.pinned.checked.prog.wantsStandIn t = false := by
  obtain rfl : f = 5 := Option.some.inj ((show Tryd.prog.funcNamed Rows.docsRiseRow.func = some 5 by kernel_rfl).symm.trans hf) |>.symm
  obtain rfl : fn = Tryd.f5 := (Option.some.inj (Tryd.func5.symm.trans hfn)).symm
  refine ⟨by kernel_rfl, fun j t ht => ?_⟩
  rw [Tryd.params5] at ht
  have hm : t ∈ [22] := by simpa using Array.mem_of_getElem? ht
  have hall : ([22].all fun u => !Tryd.prog.wantsStandIn u) = true := by kernel_rfl
  exact (show Tryd.prog.wantsStandIn t = false by simpa using List.all_eq_true.1 hall t hm)
/-- DocsRise, the card. -/
theorem docsRise_card : Rows.DocsRiseCardSaid :=
  Claim7.holds_tied_plain_at .later [] _ _ _ _ docsRise_said (fun _ h => by cases h) (by kernel_rfl) (fun _ h => by cases h) docsRise_row_tie rfl ⟨rfl, rfl⟩ (by kernel_rfl) rfl docsRise_plain (by kernel_rfl)

/-! ### DocsRefused -/
set_option maxRecDepth 100000 in
theorem docsRefused_lifted (os : Os) (started : os.Started) (H : Type) (enc : TypeId × Value → H) (F : Stop.Interp) :
    ReturnsInHanded {} Tryd.checked os 3 .any ((OpenSpec.ofChange Rows.docsRefusedSpec).preRow enc Tryd.prog Tryd.f3 Rows.docsRefusedRow.domain false Rows.docsRefusedRow.laid) (((OpenSpec.ofChange Rows.docsRefusedSpec).at F).post enc Tryd.prog Tryd.f3 false true false false) := by
  refine returnsInHanded_of_row (C := Tryd.checked) (s := OpenSpec.ofChange Rows.docsRefusedSpec) own started (by kernel_rfl) Tryd.func3
    (wit_row (enc := enc) (C := Tryd.checked) (os := os) false (World.laidAll Tryd.prog os Rows.docsRefusedRow.laid) #[.slice none 0 0, .agg #[.int .i64 0, .string ⟨#[]⟩, .int .i64 0, .string ⟨#[]⟩, .slice none 0 0]] (World.laidAll_os _ _ _)
      (World.shaped_of_ZipB (by kernel_rfl) (by kernel_rfl)) (by kernel_rfl)
      (OpenSpec.preRow_of_cond 8 (x := ([.nil, .agg [.lit (.int .i64 0), .agg [.lit (.string []), .lit (.int .i64 0), .lit (.string [])], .nil]], [], [])) (by kernel_rfl) (by kernel_rfl) (fun k hk => by cases hk) (by kernel_rfl)
        (by rw [MakeChecks.laidMetH_plain _ _ _ (by kernel_rfl)]; exact laidMet_laidAll _ (by kernel_rfl) (by kernel_rfl)))) ?_
  intro W base args ds gs before hval0 hW _ hcond hsz hL hshape _
  rw [MakeChecks.laidMetH_plain _ _ _ (by kernel_rfl)] at hL
  have hE : Env W := ⟨tabs_of hL, maxLen_cell hshape⟩
  have hval : ∀ (j : Nat) t v, Tryd.f3.params[j]? = some t → args[j]? = some v → Value.okWide Tryd.prog W .any base t v := hval0
  have hW' := hW
  obtain ⟨p, q, hA0, hV, rfl, _, _⟩ := hW
  have hA : DataW.TrodAll enc Tryd.prog W 0 (fun _ => true) true Tryd.f3.params.toList args.toList ds p := hA0
  have hpar : ∀ t ∈ Tryd.f3.params.toList, Tryd.prog.readableRec t = true ∧ t < Tryd.prog.types.size := by
    rw [Tryd.params3]
    have hall : ([22, 27].all fun u => Tryd.prog.readableRec u && decide (u < Tryd.prog.types.size)) = true := by kernel_rfl
    intro t ht
    have := List.all_eq_true.1 hall t (by simpa using ht)
    simpa using this
  rw [Tryd.params3] at hA hval hsz
  obtain ⟨v0, v1, d0, d1, p0, p1, rfl, rfl, rfl, h0, h1⟩ := trodAll_two hA
  obtain ⟨rfl, rfl⟩ := trodVars_none hV
  obtain ⟨a0, len0, cap0, rfl⟩ := okWide_slice Tryd.underlying22 (hval 0 22 v0 rfl rfl)
  obtain ⟨fuel0, hf0⟩ := h0
  obtain ⟨l0, rfl, hr0, hin0, hdat0⟩ := acts_cells (by simpa [Value.cells] using hf0)
  have hw0 : l0.length ≤ 140737488355328 ∧ ∀ a ∈ l0, a.Wide := by
    rcases hdat0 with ⟨rfl, _⟩ | ⟨elems, sp, hd, hle, hel⟩
    · exact ⟨Nat.zero_le _, fun e he => by cases he⟩
    · have hd' : d0 = .slice elems sp := hd
      have hz := sized_acts hsz (j := 0) (elems := elems) (sp := sp) rfl (by rw [hd']; rfl)
      refine ⟨by rw [← hle]; exact hz.1, fun a ha => ?_⟩
      obtain ⟨d, hm, hda⟩ := hel a ha
      exact hz.2 d hm a (hin0 a ha) hda
  obtain ⟨b1, Ae1, ce1, rfl, in1, re1, da1⟩ := open_act (hval 1 27 v1 rfl rfl) h1
  have bw1 := sized_act hsz (j := 1) (d := d1) rfl rfl in1 da1
  refine (docsRefused_any a0 cap0 l0 b1 Ae1 ce1 W hE hr0 hw0.2 hw0.1 bw1 re1).mono ?_
  rintro e W' ⟨rfl, hbel⟩
  exact ⟨_, rfl, law_post (s := Rows.docsRefusedSpec) rfl rfl Tryd.underlying4 (by kernel_rfl) hpar hW' rfl hbel⟩

theorem docsRefused_said : Rows.DocsRefusedSaid :=
  OpenClaim.holds_of_cond 3 Tryd.f3 rfl rfl rfl rfl rfl rfl rfl ⟨rfl, rfl, rfl, rfl, rfl⟩ rfl rfl rfl rfl rfl (by kernel_rfl) Tryd.func3 (by kernel_rfl)
    (of_decide_eq_true (by kernel_rfl)) (by unfold Func.isWrapper; first | (rw [if_pos (by decide +kernel)]; kernel_rfl) | (rw [if_neg (by decide +kernel)]; exact ⟨rfl, rfl⟩))
    (fun os started H enc _ F => by rw [OpenClaim.pre_eq_preRow]; exact docsRefused_lifted os started H enc F)
theorem docsRefused_plain (f : FuncId) (fn : Func) (hf : Tryd.pinned.checked.prog.funcNamed Rows.docsRefusedRow.func = some f) (hfn : Tryd.pinned.checked.prog.funcs[f]? = some fn) :
    false = Tryd.pinned.checked.prog.looks [] ∧ ∀ (j : Nat) t, fn.params[j]? = some t → Tryd.pinned.checked.prog.wantsStandIn t = false := by
  obtain rfl : f = 3 := Option.some.inj ((show Tryd.prog.funcNamed Rows.docsRefusedRow.func = some 3 by kernel_rfl).symm.trans hf) |>.symm
  obtain rfl : fn = Tryd.f3 := (Option.some.inj (Tryd.func3.symm.trans hfn)).symm
  refine ⟨by kernel_rfl, fun j t ht => ?_⟩
  rw [Tryd.params3] at ht
  have hm : t ∈ [22, 27] := by simpa using Array.mem_of_getElem? ht
  have hall : ([22, 27].all fun u => !Tryd.prog.wantsStandIn u) = true := by kernel_rfl
  exact (show Tryd.prog.wantsStandIn t = false by simpa using List.all_eq_true.1 hall t hm)
/-- DocsRefused, the card. -/
theorem docsRefused_card : Rows.DocsRefusedCardSaid :=
  Claim7.holds_tied_plain_at .later [] _ _ _ _ docsRefused_said (fun _ h => by cases h) (by kernel_rfl) (fun _ h => by cases h) docsRefused_row_tie rfl ⟨rfl, rfl⟩ (by kernel_rfl) rfl docsRefused_plain (by kernel_rfl)
end Go.Proofs.YtcadfaecoldcpaaDoor
