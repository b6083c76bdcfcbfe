/-
  THE WALKS of layer 6.s alive and fits. Conditions: what Env says of the world.
-/
import Derived.Test.YtadkjeefiacdbaaDoorEdK
set_option linter.unusedVariables false
set_option linter.unusedSimpArgs false
namespace Go.Proofs.YtadkjeefiacdbaaDoor
open Go.RowKit Go.Lib Go.Shelf

theorem rdE_two (w : World) (e f : EdV) (t : TypeId) : RdE (w.alloc (.cells #[.int .i64 e.fl, .int .i64 e.fu, .int .i64 e.tl, .int .i64 e.tu, .string e.t, .int .i64 f.fl, .int .i64 f.fu, .int .i64 f.tl, .int .i64 f.tu, .string f.t] t)) (some ⟨w.heap.size, 0, none⟩) [e, f] := by
  intro i hi
  have h := Below.refl (w.alloc (.cells #[.int .i64 e.fl, .int .i64 e.fu, .int .i64 e.tl, .int .i64 e.tu, .string e.t, .int .i64 f.fl, .int .i64 f.fu, .int .i64 f.tl, .int .i64 f.tu, .string f.t] t)).heap.size (w.alloc (.cells #[.int .i64 e.fl, .int .i64 e.fu, .int .i64 e.tl, .int .i64 e.tu, .string e.t, .int .i64 f.fl, .int .i64 f.fu, .int .i64 f.tl, .int .i64 f.tu, .string f.t] t))
  have h2 : i = 0 ∨ i = 1 := by
    simp only [List.length_cons, List.length_nil] at hi
    omega
  refine ⟨w.heap.size, 0, rfl, by rw [World.size_alloc]; omega, ?_⟩
  rcases h2 with rfl | rfl
  · exact ⟨boxN h 0 rfl, boxN h 1 rfl, boxN h 2 rfl, boxN h 3 rfl, boxN h 4 rfl⟩
  · exact ⟨boxN h 5 rfl, boxN h 6 rfl, boxN h 7 rfl, boxN h 8 rfl, boxN h 9 rfl⟩

def lvA : ByteArray := ⟨#[97, 98, 10, 99, 100]⟩
def lvB : ByteArray := ⟨#[97, 88, 99, 100]⟩
def lvE : EdV := ⟨0, 1, 1, 0, ⟨#[88]⟩⟩
def lvF : EdV := ⟨0, 0, 0, 0, ⟨#[45]⟩⟩
def lvG : EdV := ⟨0, 1, 0, 0, ⟨#[]⟩⟩
set_option maxRecDepth 100000 in
theorem lv_apply : applyL lvA.data.toList [lvE.l, lvF.l] = ([45, 97, 88, 99, 100], 0) := by decide
set_option maxRecDepth 100000 in
theorem lv_one : (edOne [97] lvG.l).1 = [] ∧ (edOne [97] lvG.l).2.2.2 = 61 := by decide
set_option maxRecDepth 100000 in
theorem lv_move : moveL lvA.data.toList lvE.l 4 = (3, 0) := by decide
set_option maxRecDepth 100000 in
theorem lv_beg : begN lvA.data.toList lvB.data.toList = 1 := by decide
set_option maxRecDepth 100000 in
theorem lv_fin : finR lvA.data.toList lvB.data.toList = 2 := by decide
set_option maxRecDepth 100000 in
theorem lv_right : validD lvA.data.toList = true ∧ validD lvB.data.toList = true := by decide
set_option maxRecDepth 100000 in
theorem lv_p1 : placeP lvA.data.toList 1 = (0, 1, 0) := by
  have h : OnLine lvA.data.toList 1 0 := ⟨by decide, by decide, by decide⟩
  have := placeP_on h (by decide)
  rw [show ((1 : Nat) : Int) = 1 from rfl] at this
  rw [this, show unitAt (lineN lvA.data.toList 0) ((1 - startN lvA.data.toList 0 : Nat) : Int) = some 1 by decide]
set_option maxRecDepth 100000 in
theorem lv_p2 : placeP lvA.data.toList 3 = (1, 0, 0) := by
  have h : OnLine lvA.data.toList 3 1 := ⟨by decide, by decide, by decide⟩
  have := placeP_on h (by decide)
  rw [show ((3 : Nat) : Int) = 3 from rfl] at this
  rw [this, show unitAt (lineN lvA.data.toList 1) ((3 - startN lvA.data.toList 1 : Nat) : Int) = some 0 by decide]
theorem lv_between : betV lvA lvB = lvE := by
  unfold betV
  rw [lv_beg, lv_fin, show ((1 : Nat) : Int) = 1 from rfl, show ((lvA.data.toList.length - 2 : Nat) : Int) = 3 from rfl, lv_p1, lv_p2]
  unfold lvE
  congr 1

set_option maxRecDepth 100000 in
set_option maxHeartbeats 1000000 in
theorem alive06_any (w : World) (hE : Env w) : Calls Tryd.prog 23 #[] w (BoolPost true w) := by
  have ok1 : ∀ e ∈ [lvE, lvF], e.Ok := by
    intro e he
    simp only [List.mem_cons, List.not_mem_nil, or_false] at he
    rcases he with rfl | rfl <;> exact ⟨by decide, by decide, by decide⟩
  have ok2 : ∀ e ∈ [lvG], e.Ok := by
    intro e he
    rw [List.mem_singleton] at he
    subst he
    exact ⟨by decide, by decide, by decide⟩
  have c1 : ∀ w' B, RdE w' (some ⟨B, 0, none⟩) [lvE, lvF] → Env w' → Calls Tryd.prog 24 #[.string ⟨#[97, 98, 10, 99, 100]⟩, .slice (some ⟨B, 0, none⟩) 2 2] w' (fun e w'' => e = .returned (.tuple #[.string ⟨#[45, 97, 88, 99, 100]⟩, .int .i64 0]) ∧ Below w'.heap.size w' w'') := fun w' B hr he => by
    refine (edApply_any lvA (some ⟨B, 0, none⟩) 2 [lvE, lvF] w' (by decide) (by decide) ok1 hr he).mono ?_
    rintro e w'' ⟨x, hx, rfl, hb⟩
    rw [show [lvE, lvF].map EdV.l = [lvE.l, lvF.l] from rfl, lv_apply] at hx ⊢
    obtain rfl : x = ⟨#[45, 97, 88, 99, 100]⟩ := data_inj hx
    exact ⟨rfl, hb⟩
  have c2 : ∀ w', Env w' → Calls Tryd.prog 26 #[.string ⟨#[97, 98, 10, 99, 100]⟩, .string ⟨#[97, 88, 99, 100]⟩] w' (fun e w'' => e = .returned (.tuple #[.agg #[.int .i64 0, .int .i64 1, .int .i64 1, .int .i64 0, .string ⟨#[88]⟩], .int .i64 0]) ∧ Below w'.heap.size w' w'') := fun w' he => by
    have := edBetween_ok lvA lvB w' (by decide) (by decide) lv_right.1 lv_right.2 he
    rw [lv_between] at this
    exact this
  have c3 : ∀ w' B, RdE w' (some ⟨B, 0, none⟩) [lvG] → Env w' → Calls Tryd.prog 24 #[.string ⟨#[97]⟩, .slice (some ⟨B, 0, none⟩) 1 1] w' (fun e w'' => e = .returned (.tuple #[.string ⟨#[]⟩, .int .i64 61]) ∧ Below w'.heap.size w' w'') := fun w' B hr he => by
    refine (edApply_any ⟨#[97]⟩ (some ⟨B, 0, none⟩) 1 [lvG] w' (by decide) (by decide) ok2 hr he).mono ?_
    rintro e w'' ⟨x, hx, rfl, hb⟩
    rw [show [lvG].map EdV.l = [lvG.l] from rfl, show (⟨#[97]⟩ : ByteArray).data.toList = [97] from rfl, applyL_one] at hx ⊢
    rw [lv_one.1] at hx
    rw [lv_one.2]
    obtain rfl : x = ⟨#[]⟩ := data_inj hx
    exact ⟨rfl, hb⟩
  have c4 : ∀ w', Env w' → Calls Tryd.prog 28 #[.string ⟨#[97, 98, 10, 99, 100]⟩, .agg #[.int .i64 0, .int .i64 1, .int .i64 1, .int .i64 0, .string ⟨#[88]⟩], .int .i64 4] w' (Lit2 3 0 w') := fun w' he =>
    (edMove_any lvA 0 1 1 0 ⟨#[88]⟩ 4 w' (by decide) (by decide) (by decide) (by decide) (by decide) he).mono (post2_lit lv_move)
  have hE1 := hE.below (bal w (.cells #[.int .i64 0, .int .i64 1, .int .i64 1, .int .i64 0, .string ⟨#[88]⟩] 51))
  have hE2 := hE1.below (bal _ (.cells #[.int .i64 0, .int .i64 1, .int .i64 1, .int .i64 0, .string ⟨#[88]⟩, .int .i64 0, .int .i64 0, .int .i64 0, .int .i64 0, .string ⟨#[45]⟩] 51))
  have hr1 : RdE ((w.alloc (.cells #[.int .i64 0, .int .i64 1, .int .i64 1, .int .i64 0, .string ⟨#[88]⟩] 51)).alloc (.cells #[.int .i64 0, .int .i64 1, .int .i64 1, .int .i64 0, .string ⟨#[88]⟩, .int .i64 0, .int .i64 0, .int .i64 0, .int .i64 0, .string ⟨#[45]⟩] 51)) (some ⟨w.heap.size + 1, 0, none⟩) [lvE, lvF] := by
    have := rdE_two (w.alloc (.cells #[.int .i64 0, .int .i64 1, .int .i64 1, .int .i64 0, .string ⟨#[88]⟩] 51)) lvE lvF 51
    rw [World.size_alloc] at this
    exact this
  have hr2 : ∀ w2 : World, RdE ((w2.alloc (.cells #[.int .i64 0, .int .i64 1, .int .i64 1, .int .i64 0, .string ⟨#[88]⟩] 51)).alloc (.cells #[.int .i64 0, .int .i64 1, .int .i64 0, .int .i64 0, .string ⟨#[]⟩] 51)) (some ⟨w2.heap.size + 1, 0, none⟩) [lvG] := fun w2 => by
    have := rdE_one (w2.alloc (.cells #[.int .i64 0, .int .i64 1, .int .i64 1, .int .i64 0, .string ⟨#[88]⟩] 51)) lvG 51
    rw [World.size_alloc] at this
    exact this
  have H1 := Lib.hid (c1 _ _ hr1 hE2)
  have H2 := Lib.hid c2
  have H3 := Lib.hid fun (w2 : World) (he : Env w2) => c3 _ _ (hr2 w2) ((he.below (bal w2 _)).below (bal _ _))
  have H4 := Lib.hid c4
  have HE := Lib.hid hE
  clear ok1 ok2 c1 c2 c3 c4 hE1 hE2 hr1 hr2 hE
  go_enter Tryd.func23, Tryd.ntmps23
  go_wp2_with (first
    | (go_at_call 28; refine (H4.out _ (HE.out.below hw3)).mono ?_; rintro e w4 ⟨rfl, hb4⟩; obtain ⟨hf, _⟩ := boxes1 (bth hq3 hb4); have f0 := hf 0 _ rfl; have f1 := hf 1 _ rfl; have f2 := hf 2 _ rfl; have f3 := hf 3 _ rfl; have f4 := hf 4 _ rfl; replace hb4 := bth hb3 hb4; obtain ⟨hd, hw4⟩ := boxes1 hb4; have d0 := hd 0 _ rfl; have d1 := hd 1 _ rfl; have d2 := hd 2 _ rfl; have d3 := hd 3 _ rfl; have d4 := hd 4 _ rfl)
    | (go_at_call 24; refine (H3.out w2 (HE.out.below hw2)).mono ?_; rintro e w3 ⟨rfl, hb3⟩; have hq3 := bth (bal (w2.alloc (.cells #[.int .i64 0, .int .i64 1, .int .i64 1, .int .i64 0, .string ⟨#[88]⟩] 51)) _) hb3; replace hb3 := bth hb2 (bth (bal w2 _) hq3); obtain ⟨hc, hw3⟩ := boxes1 hb3; have c0 := hc 0 _ rfl; have c1 := hc 1 _ rfl; have c2 := hc 2 _ rfl; have c3 := hc 3 _ rfl; have c4 := hc 4 _ rfl)
    | (go_at_call 24; refine H1.out.mono ?_; rintro e w1 ⟨rfl, hb1⟩; replace hb1 := bth (bal (w.alloc (.cells #[.int .i64 0, .int .i64 1, .int .i64 1, .int .i64 0, .string ⟨#[88]⟩] 51)) _) hb1; obtain ⟨_, hw1⟩ := boxes1 hb1)
    | (go_at_call 26; refine (H2.out _ (HE.out.below hw1)).mono ?_; rintro e w2 ⟨rfl, hb2⟩; replace hb2 := bth hb1 hb2; obtain ⟨_, hw2⟩ := boxes1 hb2))
  go_ret
  exact ⟨rfl, hw4⟩

/-- How long the first texts are together. -/
def sumT (l : List EdV) : Nat := sumL (l.map fun e => e.t.size)
def FitsOk (s : ByteArray) (l : List EdV) : Prop := l.length ≤ 12 ∧ s.size + sumT (l.take 13) ≤ 300
def FitsPost (s : ByteArray) (l : List EdV) (w : World) (e : Ending) (w' : World) : Prop := ∃ b : Bool, e = .returned (.bool b) ∧ (b = true ↔ FitsOk s l) ∧ w' = w
theorem sumT_snoc (l : List EdV) (k : Nat) (h : k < l.length) : sumT (l.take (k + 1)) = sumT (l.take k) + (l[k]'h).t.size := by
  unfold sumT
  rw [List.take_succ_eq_append_getElem h, List.map_append, sumL_append]
  simp [sumL]
theorem sumT_le {l : List EdV} {B : Nat} (h : ∀ e ∈ l, e.t.size ≤ B) : ∀ k, sumT (l.take k) ≤ k * B
  | 0 => by simp [sumT, sumL]
  | k + 1 => by
    have ih := sumT_le h k
    by_cases hk : k < l.length
    · rw [sumT_snoc l k hk, Nat.add_mul]
      have := h _ (List.getElem_mem hk)
      omega
    · rw [List.take_of_length_le (by omega)]
      rw [List.take_of_length_le (by omega)] at ih
      rw [Nat.add_mul]
      omega
theorem FitsOk.elem {s : ByteArray} {l : List EdV} (h : FitsOk s l) : ∀ e ∈ l, e.t.size ≤ 300 := by
  intro e he
  obtain ⟨h1, h2⟩ := h
  rw [List.take_of_length_le (by omega)] at h2
  have : ∀ m : List EdV, e ∈ m → e.t.size ≤ sumT m := by
    intro m
    induction m with
    | nil => intro h; cases h
    | cons x r ih =>
      intro hm
      rw [show sumT (x :: r) = x.t.size + sumT r from rfl]
      rcases List.mem_cons.1 hm with rfl | hm
      · omega
      · have := ih hm
        omega
  have := this l he
  omega

set_option maxRecDepth 100000 in
set_option maxHeartbeats 1000000 in
theorem fits06_any (s : ByteArray) (A : Option Addr) (c : Nat) (l : List EdV) (w : World) (hs : s.size ≤ 140737488355328) (hl : l.length ≤ 140737488355328) (hok : ∀ e ∈ l, e.t.size ≤ 140737488355328) (hr : RdE w A l) :
    Calls Tryd.prog 22 #[.string s, .slice A l.length c] w (FitsPost s l w) := by
  have hsm := sumT_le hok
  have HSM := Lib.hid hsm
  have HR := Lib.hid hr
  clear hsm hr hok
  go_enter Tryd.func22, Tryd.ntmps22
  go_wp2
  go_loop [5, 6] (fun a b => ∃ k n : Nat, a = .int .i64 (n : Nat) ∧ b = .int .i64 k ∧ k ≤ l.length ∧ k ≤ 13 ∧ n ≤ 140737488355328 * 14 ∧ Hid (n = s.size + sumT (l.take k))) (fun _ b => 13 - (RowKit.intOf b).toNat)
  case atStart => exact ⟨0, s.size, rfl, rfl, by omega, by omega, by omega, by show _ = _; simp [sumT, sumL]⟩
  case round =>
    obtain ⟨k, n, rfl, rfl, hk, hk2, hn, hsum⟩ := hrel
    by_cases h1 : k < l.length
    · by_cases h2 : k ≤ 12
      · obtain ⟨g, o, hA, hlt, c0, c1, c2, c3, c4⟩ := HR.out k h1
        subst hA
        have hk1z : (k : Int) < (l.length : Int) := by omega
        have hk2z : (k : Int) ≤ 12 := by omega
        have hb := HSM.out (k + 1)
        have hst := sumT_snoc l k h1
        obtain ⟨z, hz⟩ : ∃ z, z = (l[k]).t.size := ⟨_, rfl⟩
        have hzn : n + z ≤ 140737488355328 * 14 := by
          have := hsum.out
          omega
        have HST := Lib.hid hst
        have HZ := Lib.hid hz
        have hz' : (l[k]).t.size = z := hz.symm
        clear hst hb hz
        go_wp2
        go_round
        case rel => exact ⟨k + 1, n + z, by go_num, by go_num, by omega, by omega, hzn, by show _ = _; rw [HST.out, hsum.out, HZ.out]; omega⟩
        case measure => simp [RowKit.intOf]; omega
      · have h2z : decide ((k : Int) ≤ 12) = false := decide_eq_false (by omega)
        have h3 : decide ((l.length : Int) ≤ 12) = false := decide_eq_false (by omega)
        go_wp2
        go_ret
        exact ⟨false, rfl, ⟨(fun h => nomatch h), fun h => by have := h.1; omega⟩, rfl⟩
    · have h1z : decide (k < l.length) = false := decide_eq_false h1
      by_cases h3 : l.length ≤ 12
      · have h3z : (l.length : Int) ≤ 12 := by omega
        by_cases h4 : n ≤ 300
        · have h4z : (n : Int) ≤ 300 := by omega
          go_wp2
          go_ret
          exact ⟨true, rfl, ⟨fun _ => ⟨h3, by have := hsum.out; rw [List.take_of_length_le (by omega)] at this; rw [List.take_of_length_le (by omega)]; omega⟩, fun _ => rfl⟩, rfl⟩
        · have h4z : decide ((n : Int) ≤ 300) = false := decide_eq_false (by omega)
          go_wp2
          go_ret
          exact ⟨false, rfl, ⟨(fun h => nomatch h), fun h => by have := hsum.out; have h5 := h.2; rw [List.take_of_length_le (by omega)] at this; rw [List.take_of_length_le (by omega)] at h5; omega⟩, rfl⟩
      · have h3z : decide ((l.length : Int) ≤ 12) = false := decide_eq_false (by omega)
        go_wp2
        go_ret
        exact ⟨false, rfl, ⟨(fun h => nomatch h), fun h => by have := h.1; omega⟩, rfl⟩
end Go.Proofs.YtadkjeefiacdbaaDoor
