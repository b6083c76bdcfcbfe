/-
  MEMORY WORDS over any program: a slice that reads as a list of cells; a row that the call owns; append onto it. Conditions: stated at each.
-/
import Derived.WalkKit
import Derived.WalkSpells
import Derived.WalkLawsBesides
import Derived.LoopTactic
import Derived.Lib.Hide
import Derived.Deep.AppendLies
import Derived.Deep.Draws
import Derived.Deep.DeepMust
import Derived.Lib.Strings
set_option linter.unusedVariables false
namespace Go.Proofs.YtcadfaecoldcpaaDoor
open Go.RowKit

theorem blk_add (a : Addr) (n : Nat) : (a.add n).block = a.block := by unfold Addr.add; split <;> rfl
theorem add_add' (a : Addr) (i j : Nat) : (a.add i).add j = a.add (i + j) := by
  unfold Addr.add
  by_cases hi : i = 0 <;> by_cases hj : j = 0 <;> simp [hi, hj, Nat.add_assoc]
theorem add_lit (g o n : Nat) : (⟨g, o, none⟩ : Addr).add n = ⟨g, o + n, none⟩ := by
  unfold Addr.add
  by_cases h : n = 0
  · subst h; rfl
  · rw [if_neg h]

/-- The slice value '.slice A n c' holds the cells xs ('size' cells an element), in blocks that lie. -/
structure Rd (w : World) (size : Nat) (A : Option Addr) (n : Nat) (xs : List Value) : Prop where
  len : xs.length = n * size
  at' : 0 < n → ∃ ad, A = some ad ∧ ad.block < w.heap.size ∧ ∀ j u, xs[j]? = some u → w.cell? (ad.add j) = some u
section
variable {w w' : World} {size n : Nat} {A : Option Addr} {xs : List Value}
theorem Rd.nil : Rd w size A 0 [] := ⟨by simp, fun h => absurd h (by omega)⟩
theorem Rd.keep (h : Rd w size A n xs) (hs : w.heap.size ≤ w'.heap.size) (hk : ∀ p : Addr, p.block < w.heap.size → w'.cell? p = w.cell? p) : Rd w' size A n xs :=
  ⟨h.len, fun hn => by
    obtain ⟨ad, e, hb, hc⟩ := h.at' hn
    exact ⟨ad, e, by omega, fun j u hu => (hk _ (by rw [blk_add]; exact hb)).trans (hc j u hu)⟩⟩
theorem Rd.below (h : Rd w size A n xs) (hb : Below w.heap.size w w') : Rd w' size A n xs := h.keep hb.size fun _ hp => hb.cell hp
theorem Rd.drew (h : Rd w size A n xs) : Rd w.drew size A n xs := ⟨h.len, h.at'⟩
theorem Rd.alloc (h : Rd w size A n xs) (o : Obj) : Rd (w.alloc o) size A n xs := h.keep (by simp) fun p hp => World.cell?_alloc_lt w o p (by omega)
theorem Rd.grown (h : Rd w size A n xs) {row : Option Nat} (hg : w.grownBy w' row) (hr : ∀ g, row = some g → w.heap.size ≤ g) : Rd w' size A n xs :=
  h.keep hg.size fun p hp => World.cell?_of_block (hg.block p.block (by omega) (fun e => by have := hr _ e.symm; omega))
theorem Rd.at1 (h : Rd w 1 A n xs) {k : Nat} (hk : k < n) : ∃ ad u, A = some ad ∧ ad.block < w.heap.size ∧ xs[k]? = some u ∧ w.cell? (ad.add k) = some u := by
  obtain ⟨ad, e, hb, hc⟩ := h.at' (by omega)
  have hl : k < xs.length := by have := h.len; omega
  exact ⟨ad, xs[k], e, hb, List.getElem?_eq_getElem hl, hc k _ (List.getElem?_eq_getElem hl)⟩
theorem Rd.of_own {base : Nat} {e : TypeId} {c : Nat} (h : w.ownsRow base e size (.slice A n c) n xs) : Rd w size A n xs := by
  refine ⟨h.1, fun hn => ?_⟩
  obtain ⟨g, cap, hv, _, hlt⟩ := h.form hn
  have hA : A = some ⟨g, 0, none⟩ := by injection hv
  subst hA
  exact ⟨_, rfl, hlt, h.cells (g := g) rfl⟩
end
/-- A slice of ints. -/
def RdI (w : World) (A : Option Addr) (l : List Nat) : Prop := Rd w 1 A l.length (l.map fun x => Value.int .i64 (x : Nat))
def OwnI (w : World) (B : Nat) (e : TypeId) (v : Value) (l : List Nat) : Prop := w.ownsRow B e 1 v l.length (l.map fun x => Value.int .i64 (x : Nat))
theorem RdI.of_own {w : World} {B : Nat} {e : TypeId} {A : Option Addr} {c : Nat} {l : List Nat} (h : OwnI w B e (.slice A l.length c) l) : RdI w A l := Rd.of_own h
theorem RdI.below {w w' : World} {A : Option Addr} {l : List Nat} (h : RdI w A l) (hb : Below w.heap.size w w') : RdI w' A l := Rd.below h hb
theorem RdI.cell {w : World} {A : Option Addr} {l : List Nat} (h : RdI w A l) {k : Nat} (hk : k < l.length) : ∃ ad, A = some ad ∧ ad.block < w.heap.size ∧ w.cell? (ad.add k) = some (.int .i64 ((l.getD k 0 : Nat) : Int)) := by
  obtain ⟨ad, u, hA, hb, hx, hc⟩ := Rd.at1 h hk
  refine ⟨ad, hA, hb, ?_⟩
  rw [hc, ← hx, List.getElem?_map, List.getElem?_eq_getElem hk, List.getD_eq_getElem?_getD, List.getElem?_eq_getElem hk]
  rfl

/-- What the append laws ask of a slice's type. -/
structure EltOk (P : Program) (t e : TypeId) (size bytes : Nat) : Prop where
  ht : P.underlying t = some (.slice e)
  hi : ∃ i z, P.info? e = some i ∧ i.zero = some z ∧ i.size = size ∧ i.bytes = bytes ∧ z.cells.size = size
  pos : 0 < size
theorem EltOk.of {P : Program} {t e : TypeId} {size bytes : Nat} {z : Value} (ht : P.underlying t = some (.slice e)) (h : (P.info? e).map (fun i => (i.zero, i.size, i.bytes)) = some (some z, size, bytes))
    (hz : z.cells.size = size) (hp : 0 < size) : EltOk P t e size bytes := by
  obtain ⟨i, a, b, c, d⟩ := info_parts h
  exact ⟨ht, ⟨i, z, a, b, c, d, hz⟩, hp⟩

section
variable {P : Program} (w : World)
/-- append onto a row of the call's own: at least one element. -/
theorem wpList_app {ops : Array Oper} {rest : List Oper} {o : Oper} {a : Act} {Q : Exit → Act → World → Prop} {t e : TypeId} {size bytes : Nat} (hE : EltOk P t e size bytes) (hgd : o.guard = none) (s x : Operand)
    (ho : o.op = .call { callee := .builtin .append, args := #[s, x], argTypes := #[t, t] })
    (base : Nat) (v : Value) (n : Nat) (xs : List Value) (hs : a.eval s = v) (hown : w.ownsRow base e size v n xs)
    (ad : Addr) (m c : Nat) (news : List Value) (hx : a.eval x = .slice (some ad) m c) (hl : news.length = m * size) (hnews : ∀ j u, news[j]? = some u → w.cell? (ad.add j) = some u) (h1 : ∀ u ∈ news, u.oneCell' = true)
    (hm : 0 < m) (h63 : n + m ≤ maxLen) (hbytes : (n + m) * bytes ≤ 140737488355328) (hbase : base ≤ w.heap.size)
    (h : ∀ g cap w1, w1.ownsRow base e size (.slice (some ⟨g, 0, none⟩) (n + m) cap) (n + m) (xs ++ news) → w.grownBy w1 v.ownBlock → (v.ownBlock = some g ∨ g = w.heap.size) → g < w1.heap.size →
      wpList P ops Q rest (a.put o.dst (.slice (some ⟨g, 0, none⟩) (n + m) cap)) w1) : wpList P ops Q (o :: rest) a w := by
  obtain ⟨i, z, hi, hz, hsz, hby, hzs⟩ := hE.hi
  exact wpList_append_lies w hgd s x t ho base e i z size bytes hE.ht hi hz hsz hby hzs hE.pos v n xs hs hown ad m c news hx hl hnews h1 hm h63 hbytes hbase _ rfl h
end

theorem maxLen_of {n : Nat} (h : n ≤ 140737488355328) : n ≤ maxLen := by unfold maxLen; omega
theorem one_cell_int {k : IntKind} {n : Int} : ∀ u ∈ [Value.int k n], u.oneCell' = true := by
  intro u hu
  simp at hu
  subst hu
  rfl
theorem one_cell_string {s : ByteArray} : ∀ u ∈ [Value.string s], u.oneCell' = true := by
  intro u hu
  simp at hu
  subst hu
  rfl

/-- Two rows of the call's own, apart; what lay below B lies. -/
structure Two (B : Nat) (w wr : World) (e1 : TypeId) (s1 : Nat) (v1 : Value) (n1 : Nat) (xs1 : List Value) (e2 : TypeId) (s2 : Nat) (v2 : Value) (n2 : Nat) (xs2 : List Value) : Prop where
  o1 : wr.ownsRow B e1 s1 v1 n1 xs1
  o2 : wr.ownsRow B e2 s2 v2 n2 xs2
  ne : ∀ g, v1.ownBlock = some g → v2.ownBlock ≠ some g
  bel : Below B w wr
  hB : B ≤ w.heap.size
section
variable {B : Nat} {w wr w1 : World} {e1 e2 : TypeId} {s1 s2 n1 n2 : Nat} {v1 v2 : Value} {xs1 xs2 : List Value}
theorem Two.swap (h : Two B w wr e1 s1 v1 n1 xs1 e2 s2 v2 n2 xs2) : Two B w wr e2 s2 v2 n2 xs2 e1 s1 v1 n1 xs1 :=
  ⟨h.o2, h.o1, fun g a b => h.ne g b a, h.bel, h.hB⟩
theorem Two.alloc (h : Two B w wr e1 s1 v1 n1 xs1 e2 s2 v2 n2 xs2) (o : Obj) : Two B w (wr.alloc o) e1 s1 v1 n1 xs1 e2 s2 v2 n2 xs2 :=
  ⟨h.o1.alloc _, h.o2.alloc _, h.ne, h.bel.alloc (Nat.le_trans h.hB h.bel.size) _, h.hB⟩
/-- Behind an append onto the first. -/
theorem Two.app (h : Two B w wr e1 s1 v1 n1 xs1 e2 s2 v2 n2 xs2) {g cap n' : Nat} {xs' : List Value} {H : Nat} (hown : w1.ownsRow B e1 s1 (.slice (some ⟨g, 0, none⟩) n' cap) n' xs') (hgr : wr.grownBy w1 v1.ownBlock)
    (hat : v1.ownBlock = some g ∨ g = H) (hH : wr.heap.size = H) : Two B w w1 e1 s1 (.slice (some ⟨g, 0, none⟩) n' cap) n' xs' e2 s2 v2 n2 xs2 := by
  subst hH
  refine ⟨hown, h.o2.kept hgr ?_, ?_, h.bel.grown hgr (Nat.le_trans h.hB h.bel.size) (fun k hk => (h.o1.lt k hk).1), h.hB⟩
  · cases hv : v2.ownBlock with
    | none => exact .inl rfl
    | some g2 => exact .inr fun hh => h.ne g2 hh.symm hv
  · intro g' hg' hv
    simp [Value.ownBlock] at hg'
    subst hg'
    rcases hat with ha | rfl
    · exact h.ne _ ha hv
    · have := (h.o2.lt _ hv).2
      omega
end
end Go.Proofs.YtcadfaecoldcpaaDoor
