/-
  THE WALK of the statement EditsLong. Conditions: what Env says of the world; the argument. bounds.
-/
import Derived.Test.YtcadfaecoldcpaaDoorEdO
import Derived.Laws.IdiomStrings
set_option linter.unusedVariables false
set_option linter.unusedSimpArgs false
namespace Go.Proofs.YtcadfaecoldcpaaDoor
open Go.RowKit Go.Lib Go.Shelf

/-! ### one line of one letter -/
def reA (n : Nat) : List UInt8 := List.replicate n 97
theorem reA_succ (n : Nat) : reA (n + 1) = [97] ++ reA n := rfl
theorem reA_right : ∀ n, validD (reA n) = true
  | 0 => rfl
  | n + 1 => by
    rw [reA_succ, validD_append [97] _ (by decide)]
    exact reA_right n
theorem reA_units : ∀ n, unitsL (reA n) = n
  | 0 => rfl
  | n + 1 => by
    rw [reA_succ, unitsL_append [97] _ (by decide), reA_units n, show unitsL [97] = 1 by decide]
    omega
theorem reA_len (n : Nat) : (reA n).length = n := List.length_replicate
theorem reA_take (n k : Nat) (h : k ≤ n) : (reA n).take k = reA k := by
  unfold reA
  rw [List.take_replicate, Nat.min_eq_left h]
theorem reA_drop (n k : Nat) : (reA n).drop k = reA (n - k) := by
  unfold reA
  rw [List.drop_replicate]
theorem reA_add (n k : Nat) : reA n ++ reA k = reA (n + k) := by
  unfold reA
  rw [List.replicate_append_replicate]
theorem reA_split (n : Nat) : splitN (reA n) = [reA n] := splitN_no _ fun c hc => by
  rw [List.eq_of_mem_replicate hc]
  decide
theorem reA_off (n k : Nat) (h : k ≤ n) : offP (reA n) 0 k = (k, 0) := by
  have h1 : nLines (reA n) = 1 := by unfold nLines; rw [reA_split]; rfl
  have h2 : lineN (reA n) 0 = reA n := by unfold lineN; rw [reA_split]; rfl
  have hst : startAt (reA n) (k : Nat) := by
    rw [start_nat, reA_len]
    refine ⟨h, fun hlt => ?_⟩
    have : (reA n).getD k 0 = 97 := by
      unfold reA
      rw [List.getD_eq_getElem?_getD, List.getElem?_replicate, if_pos hlt]
      rfl
    rw [this]
    decide
  have h3 := ((unitAt_start (reA n) (reA_right n) (k : Nat)).1 hst).1
  rw [Int.toNat_natCast, reA_take n k h, reA_units] at h3
  have h4 := (unit_back _ _ _ h3).1
  rw [Int.toNat_natCast] at h4
  unfold offP
  rw [h1, if_pos ⟨by omega, by omega⟩, show (0 : Int).toNat = 0 from rfl, h2, h4, startN_zero]
  simp
theorem reA_find (n k : Nat) (t : List UInt8) (ht : validD t = true) (h : k ≤ n) : edFind (reA n) ⟨0, 0, 0, k, t⟩ = (0, k, 0) := by
  have h0 := reA_off n 0 (Nat.zero_le _)
  have hk := reA_off n k h
  unfold edFind
  rw [if_pos ⟨reA_right n, ht⟩]
  show (if (offP (reA n) 0 0).2 = 0 ∧ (offP (reA n) 0 k).2 = 0 then (if (offP (reA n) 0 k).1 < (offP (reA n) 0 0).1 then (0, 0, 61) else ((offP (reA n) 0 0).1, (offP (reA n) 0 k).1, 0)) else (0, 0, 51)) = _
  rw [show ((0 : Nat) : Int) = 0 from rfl] at h0
  rw [h0, hk]
  simp
theorem reA_one (n k : Nat) (t : List UInt8) (ht : validD t = true) (h : k ≤ n) (hn : n + t.length ≤ 16384 + k) : edOne (reA n) ⟨0, 0, 0, k, t⟩ = (t ++ reA (n - k), 0, k, 0) := by
  unfold edOne
  rw [reA_find n k t ht h]
  show (if (0 : Nat) = 0 then (if 16384 + (k - 0) < (reA n).length + t.length then ([], 0, 0, 73) else (edText (reA n) t 0 k, 0, k, 0)) else _) = _
  rw [if_pos rfl, reA_len, if_neg (by omega)]
  unfold edText
  rw [List.take_zero, List.nil_append, reA_drop]
theorem reA_full (n : Nat) (t : List UInt8) (ht : validD t = true) (hn : 16384 < n + t.length) : edOne (reA n) ⟨0, 0, 0, 0, t⟩ = ([], 0, 0, 73) := by
  have hf := reA_find n 0 t ht (Nat.zero_le _)
  rw [show ((0 : Nat) : Int) = 0 from rfl] at hf
  unfold edOne
  rw [hf]
  show (if (0 : Nat) = 0 then (if 16384 + (0 - 0) < (reA n).length + t.length then ([], 0, 0, 73) else _) else _) = _
  rw [if_pos rfl, reA_len, if_pos (by omega)]
theorem long_1 : applyL (reA 16384) [⟨0, 0, 0, 0, []⟩] = (reA 16384, 0) := by
  have h := reA_one 16384 0 [] rfl (Nat.zero_le _) (Nat.le_refl _)
  rw [applyL_one, show ((0 : Nat) : Int) = 0 from rfl] at *
  rw [h]
  rfl
theorem long_2 : applyL (reA 16384) [⟨0, 0, 0, 0, [98]⟩] = ([], 73) := by
  rw [applyL_one, reA_full 16384 [98] (by decide) (by decide)]
theorem long_3 (k : Nat) (hk : k ≤ 255) : applyL (reA 16384) [⟨0, 0, 0, k, []⟩, ⟨0, 0, 0, 0, reA k⟩] = (reA 16384, 0) := by
  have h1 := reA_one 16384 k [] rfl (by omega) (by rw [List.length_nil]; omega)
  have h2 := reA_one (16384 - k) 0 (reA k) (reA_right k) (Nat.zero_le _) (by rw [reA_len]; omega)
  rw [show ((0 : Nat) : Int) = 0 from rfl] at h2
  rw [List.nil_append] at h1
  unfold applyL
  rw [if_pos (reA_right _), applyGo_ok (by rw [h1]), h1]
  show applyGo (reA (16384 - k)) _ = _
  rw [applyGo_ok (by rw [h2]), h2]
  show (reA k ++ reA (16384 - k - 0), 0) = _
  rw [reA_add, show k + (16384 - k - 0) = 16384 by omega]

theorem wpList_mk {P : Program} (w : World) {ops : Array Oper} {rest : List Oper} {o : Oper} {a : Act} {Q : Exit → Act → World → Prop} {t e : TypeId} {bytes : Nat} (hE : EltOk P t e 1 bytes)
    (hg : o.guard = none) (l c : Operand) (hop : o.op = Op.makeSlice t l c)
    (kl kc : IntKind) (L C : Int) (n : Nat) (hl : a.eval l = .int kl L) (hc : a.eval c = .int kc C) (hL : L = (n : Int)) (hC : C = (n : Int)) (b2 : bytes * n ≤ 281474976710656) (b3 : n ≤ maxLen)
    (hK : ∀ w' xs, w'.ownsRow w.heap.size e 1 (.slice (some ⟨w.heap.size, 0, none⟩) n n) n xs → w.grownBy w' none → wpList P ops Q rest (a.put o.dst (.slice (some ⟨w.heap.size, 0, none⟩) n n)) w') :
    wpList P ops Q (o :: rest) a w := by
  obtain ⟨i, z, h2, h3, h4, h5, _⟩ := hE.hi
  exact wpList_make_full w hg l c t hop w.heap.size e i z 1 hE.ht h2 h3 h4 kl kc L C n hl hc hL hC (by rw [h5]; exact b2) b3 (Nat.le_refl _) fun w' h g => hK w' _ h g
set_option maxRecDepth 100000 in
theorem eltBytes : EltOk Tryd.prog 48 5 1 1 := EltOk.of Tryd.underlying48 (show _ = some (some (.int .u8 0), 1, 1) by kernel_rfl) rfl (by decide)
def repV (k : Nat) (xs : List Value) : List Value := List.replicate k (.int .u8 97) ++ xs.drop k
theorem repV_set (k : Nat) (xs : List Value) (h : k < xs.length) : (repV k xs).set k (.int .u8 97) = repV (k + 1) xs := by
  unfold repV
  rw [List.set_append_right _ _ (by rw [List.length_replicate]; exact Nat.le_refl _), List.length_replicate, Nat.sub_self, List.drop_eq_getElem_cons h, List.set_cons_zero, List.replicate_succ', List.append_assoc]
  rfl

end Go.Proofs.YtcadfaecoldcpaaDoor
