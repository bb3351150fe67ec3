/-
  Plain laws of the model's memory, for this seat's walks: what a call may have turned ('Chg'), blocks of integers told by a function.
-/
import Derived.WalkKit
import Derived.WalkSpells
import Derived.WalkLawsBesides
import Derived.Lib.Hide
import Derived.Lib.MinMax
import Derived.Outline
import Derived.BigRegion
import Derived.BigQuiet
import Derived.Deep.QuietTactic
import Derived.Deep.LoopGhost
import Derived.Deep.RegionWith
import Derived.Deep.DeepCutAuto
import Derived.Deep.DeepFit
import Derived.Deep.DeepMust
import Derived.StillTailTactics
import Derived.Maps.AppendAt
import Derived.Laws.AppendOwnNone
namespace Go.Proofs.Ytkdhhafoohnlnaa
open Go.RowKit

/-- From w to w' only the blocks of S (and new ones) have turned; the streams are as they were. -/
structure Chg (S : List Nat) (w w' : World) : Prop where
  os : w'.os = w.os
  tape : w'.tape = w.tape
  output : w'.output = w.output
  size : w.heap.size ≤ w'.heap.size
  block : ∀ k, k < w.heap.size → k ∉ S → w'.heap[k]? = w.heap[k]?

theorem Chg.refl (S : List Nat) (w : World) : Chg S w w := ⟨rfl, rfl, rfl, Nat.le_refl _, fun _ _ _ => rfl⟩
theorem Chg.trans {S : List Nat} {a b c : World} (h : Chg S a b) (k : Chg S b c) : Chg S a c :=
  ⟨k.os.trans h.os, k.tape.trans h.tape, k.output.trans h.output, Nat.le_trans h.size k.size, fun i hi hS => (k.block i (Nat.lt_of_lt_of_le hi h.size) hS).trans (h.block i hi hS)⟩
/-- What the second step turns beyond S are new blocks. -/
theorem Chg.trans' {S T : List Nat} {a b c : World} (h : Chg S a b) (k : Chg T b c) (hT : ∀ x, x ∈ T → x ∈ S ∨ a.heap.size ≤ x) : Chg S a c :=
  ⟨k.os.trans h.os, k.tape.trans h.tape, k.output.trans h.output, Nat.le_trans h.size k.size, fun i hi hS => (k.block i (Nat.lt_of_lt_of_le hi h.size) (fun hx => by rcases hT i hx with h1 | h1 <;> first | exact hS h1 | omega)).trans (h.block i hi hS)⟩
theorem Chg.mono {S T : List Nat} {w w' : World} (h : Chg S w w') (hT : ∀ x, x ∈ S → x ∈ T) : Chg T w w' := ⟨h.os, h.tape, h.output, h.size, fun k hk hS => h.block k hk (fun hx => hS (hT k hx))⟩
theorem Chg.drew {S : List Nat} {a w : World} (h : Chg S a w) : Chg S a w.drew := ⟨h.os, h.tape, h.output, h.size, h.block⟩
theorem Chg.drewN {S : List Nat} {a w : World} (h : Chg S a w) (n : Nat) : Chg S a (w.drewN n) := ⟨h.os, h.tape, h.output, h.size, h.block⟩
theorem Chg.alloc {S : List Nat} {a w : World} (h : Chg S a w) (o : Obj) : Chg S a (w.alloc o) :=
  h.trans ⟨rfl, rfl, rfl, by simp, fun k hk _ => Below.heap_alloc _ _ _ hk⟩
theorem Chg.setCell {S : List Nat} {a w : World} (h : Chg S a w) {p : Addr} (hp : p.block ∈ S ∨ a.heap.size ≤ p.block) (u : Value) : Chg S a (w.setCell p u) := by
  refine ⟨h.os, h.tape, h.output, by simpa [World.setCell] using h.size, fun k hk hS => ?_⟩
  rw [Below.heap_setCell _ _ _ _ (fun e => by subst e; rcases hp with h1 | h1 <;> first | exact hS h1 | omega)]
  exact h.block k hk hS
theorem Chg.heap {S : List Nat} {w w' : World} (h : Chg S w w') {k : Nat} {o : Obj} (hk : w.heap[k]? = some o) (hS : k ∉ S) : w'.heap[k]? = some o :=
  (h.block k (by rcases Nat.lt_or_ge k w.heap.size with h' | h' <;> simp_all) hS).trans hk
theorem Chg.below {S : List Nat} {w w' : World} (h : Chg S w w') {B : Nat} (hB : B ≤ w.heap.size) (hS : ∀ x, x ∈ S → B ≤ x) : Below B w w' :=
  ⟨h.os, h.tape, h.output, h.size, fun k hk => h.block k (by omega) (fun hx => by have := hS k hx; omega)⟩
theorem Chg.of_below {w w' : World} (h : Below w.heap.size w w') : Chg [] w w' := ⟨h.os, h.tape, h.output, h.size, fun k hk _ => h.block k hk⟩

theorem Chg.cell {S : List Nat} {w w' : World} (h : Chg S w w') {p : Addr} {u : Value} (hc : w.cell? p = some u) (hS : p.block ∉ S) : w'.cell? p = some u := by
  rw [World.cell?_of_block (h.block p.block (World.block_lt_of_cell? _ _ hc) hS)]; exact hc
theorem Chg.free {S : List Nat} {w w' : World} (h : Chg S w w') {p : Addr} (hp : p.block < w.heap.size) (hc : w.frozen? p = false) (hS : p.block ∉ S) : w'.frozen? p = false := by
  rw [World.frozen?_of_block (h.block p.block hp hS)]; exact hc

theorem lt_of_heap {w : World} {k : Nat} {o : Obj} (h : w.heap[k]? = some o) : k < w.heap.size := by
  rcases Nat.lt_or_ge k w.heap.size with h' | h'
  · exact h'
  · simp_all

/-- A function with one value turned. -/
def upd (f : Nat → Int) (i : Nat) (v : Int) : Nat → Int := fun j => if j = i then v else f j
theorem upd_same (f : Nat → Int) (i : Nat) (v : Int) : upd f i v i = v := by simp [upd]
theorem upd_other (f : Nat → Int) (i : Nat) (v : Int) {j : Nat} (h : j ≠ i) : upd f i v j = f j := by simp [upd, h]

/-- A block of n integers of kind k, of type t, told by a function. -/
def row (k : IntKind) (n : Nat) (f : Nat → Int) : Array Value := ((List.range n).map fun i => Value.int k (f i)).toArray
def ints (k : IntKind) (t n : Nat) (f : Nat → Int) : Obj := .cells (row k n f) t (0, 0)
theorem row_size (k : IntKind) (n : Nat) (f : Nat → Int) : (row k n f).size = n := by simp [row]
theorem ints_cell {w : World} {b : Nat} {k : IntKind} {t n : Nat} {f : Nat → Int} (h : w.heap[b]? = some (ints k t n f)) {i : Nat} (hi : i < n) : w.cell? ⟨b, i, none⟩ = some (.int k (f i)) := by
  rw [cell_of_row w b i _ _ _ h]; simp [row, hi]
theorem ints_frozen {w : World} {b : Nat} {k : IntKind} {t n : Nat} {f : Nat → Int} (h : w.heap[b]? = some (ints k t n f)) (i : Nat) : w.frozen? ⟨b, i, none⟩ = false := frozen_of_row w b i _ _ h
theorem ints_set {w : World} {b : Nat} {k : IntKind} {t n : Nat} {f : Nat → Int} (h : w.heap[b]? = some (ints k t n f)) (i : Nat) (v : Int) : (w.setCell ⟨b, i, none⟩ (.int k v)).heap[b]? = some (ints k t n (upd f i v)) := by
  rw [heap_setCell_same w b i _ _ _ h]
  simp only [ints, Option.some.injEq, Obj.cells.injEq, and_true]
  apply Array.ext
  · simp [row]
  · intro j h1 h2
    simp [row, upd]
    by_cases hj : i = j
    · subst hj; simp
    · have : ¬ j = i := fun e => hj e.symm
      simp [hj, this]
theorem ints_congr {k : IntKind} {t n : Nat} {f g : Nat → Int} (h : ∀ i, i < n → f i = g i) : ints k t n f = ints k t n g := by
  simp only [ints, row, Obj.cells.injEq, and_true]
  congr 1
  exact List.map_congr_left fun i hi => by rw [h i (by simpa using hi)]
theorem heap_setCell_ne {w : World} {p : Addr} {u : Value} {k : Nat} {o : Obj} (h : w.heap[k]? = some o) (hne : k ≠ p.block) : (w.setCell p u).heap[k]? = some o := by
  rw [Below.heap_setCell _ _ _ _ hne]; exact h

/-! ## Slices of the call's own: a row that is owned; what append does to it -/

/-- What is known of a slice type t, its elements' type e. -/
def ElTy (P : Program) (t e size bytes : Nat) : Prop :=
  ∃ i z, P.underlying t = some (.slice e) ∧ P.info? e = some i ∧ i.zero = some z ∧ i.size = size ∧ i.bytes = bytes ∧ z.cells.size = size ∧ 0 < size

/-- The slice value v of n elements, of type e and of size cells, lies whole in a row and reads as the cells xs. -/
abbrev Own (w : World) (e size : Nat) (v : Value) (n : Nat) (xs : List Value) : Prop := w.ownsRow 0 e size v n xs

/-- What may be appended: nothing (a nil slice), or cells that lie somewhere. -/
def Src1 (w : World) (size : Nat) (vx : Value) (m : Nat) (news : List Value) : Prop :=
  news.length = m * size ∧ (∀ u, u ∈ news → u.oneCell' = true) ∧ ((vx = .slice none 0 0 ∧ m = 0) ∨ ∃ ad c, vx = .slice (some ad) m c ∧ ∀ j u, news[j]? = some u → w.cell? (ad.add j) = some u)

theorem Src1.of_own {w : World} {e size n : Nat} {v : Value} {xs : List Value} (h : Own w e size v n xs) (h1 : ∀ u, u ∈ xs → u.oneCell' = true) : Src1 w size v n xs := by
  refine ⟨h.1, h1, ?_⟩
  rcases h.2 with ⟨rfl, h2⟩ | ⟨g, cap, cur, rfl, _⟩
  · exact .inl ⟨rfl, h2⟩
  · exact .inr ⟨_, _, rfl, h.cells rfl⟩

theorem Own.form' {w : World} {e size n : Nat} {v : Value} {xs : List Value} (h : Own w e size v n xs) : ∃ A c, v = .slice A n c := by
  rcases h.2 with ⟨rfl, rfl⟩ | ⟨g, cap, cur, rfl, _⟩
  · exact ⟨_, _, rfl⟩
  · exact ⟨_, _, rfl⟩
theorem Own.chg {w w' : World} {S : List Nat} {e size n : Nat} {v : Value} {xs : List Value} (h : Own w e size v n xs) (hc : Chg S w w') (hv : ∀ k, v.ownBlock = some k → k ∉ S) : Own w' e size v n xs := by
  refine ⟨h.1, ?_⟩
  rcases h.2 with h2 | ⟨g, cap, cur, rfl, h0, hg, r⟩
  · exact .inl h2
  · exact .inr ⟨g, cap, cur, rfl, h0, hc.heap hg (hv g rfl), r⟩
/-- Rows of other types are other blocks. -/
theorem Own.ne {w : World} {e size n : Nat} {v : Value} {xs : List Value} (h : Own w e size v n xs) {g t : Nat} {cs : Array Value} {fr : Nat × Nat} (hg : w.heap[g]? = some (.cells cs t fr)) (hne : e ≠ t) : v.ownBlock ≠ some g := by
  rcases h.2 with ⟨rfl, _⟩ | ⟨g', cap, cur, rfl, _, hh, _⟩
  · simp [Value.ownBlock]
  · intro he
    have : g' = g := by simpa [Value.ownBlock] using he
    subst this
    rw [hh] at hg
    injection hg with hg
    injection hg with _ ht
    exact hne ht
theorem Own.lt' {w : World} {e size n : Nat} {v : Value} {xs : List Value} (h : Own w e size v n xs) : ∀ k, v.ownBlock = some k → k < w.heap.size := fun k hk => (World.ownsRow.lt h k hk).2

theorem Chg.of_grown {w w' : World} {row : Option Nat} (h : w.grownBy w' row) : Chg row.toList w w' :=
  ⟨h.os, h.tape, h.output, h.size, fun k hk hS => h.block k hk (by cases row <;> simp_all)⟩

/-- What an append leaves: the new slice is owned; the old row alone may be turned; the new one is that or a new block. -/
structure App (w w' : World) (e size : Nat) (v v' : Value) (n : Nat) (xs : List Value) : Prop where
  own : Own w' e size v' n xs
  chg : Chg v.ownBlock.toList w w'
  at_ : ∀ k, v'.ownBlock = some k → v.ownBlock = some k ∨ w.heap.size ≤ k

theorem Src1.one {w : World} {e : Nat} {u : Value} (h1 : u.oneCell' = true) : Src1 (w.alloc (.cells #[u] e)) 1 (.slice (some ⟨w.heap.size, 0, none⟩) 1 1) 1 [u] :=
  ⟨rfl, by simpa using h1, .inr ⟨_, _, rfl, cell_one_new _ _ _⟩⟩
theorem Src1.alloc {w : World} {size m : Nat} {vx : Value} {news : List Value} (h : Src1 w size vx m news) (o : Obj) : Src1 (w.alloc o) size vx m news := by
  refine ⟨h.1, h.2.1, ?_⟩
  rcases h.2.2 with h | ⟨ad, c', h, h2⟩
  · exact .inl h
  · exact .inr ⟨ad, c', h, fun j u hu => by
      have := h2 j u hu
      rwa [World.cell?_alloc_lt _ _ _ (World.block_lt_of_cell? _ _ this)]⟩
theorem Own.alloc {w : World} {e size n : Nat} {v : Value} {xs : List Value} (h : Own w e size v n xs) (o : Obj) : Own (w.alloc o) e size v n xs := World.ownsRow.alloc h o

theorem wpList_app {P : Program} {w : World} {ops : Array Oper} {rest : List Oper} {o : Oper} {a : Act} {Q : Exit → Act → World → Prop} (hgd : o.guard = none) (s x : Operand) (t : TypeId)
    (ho : o.op = .call { callee := .builtin .append, args := #[s, x], argTypes := #[t, t] }) (e size bytes : Nat) (hT : ElTy P t e size bytes)
    (v : Value) (n : Nat) (xs : List Value) (hs : a.eval s = v) (hown : Own w e size v n xs)
    (vx : Value) (m : Nat) (news : List Value) (hx : a.eval x = vx) (hsrc : Src1 w size vx m news) (N : Nat) (XS : List Value) (hN : n + m = N) (hXS : xs ++ news = XS) (h63 : N ≤ maxLen) (hbytes : N * bytes ≤ 140737488355328)
    (h : ∀ A' c' w', App w w' e size v (.slice A' N c') N XS → wpList P ops Q rest (a.put o.dst (.slice A' N c')) w') : wpList P ops Q (o :: rest) a w := by
  obtain ⟨i, z, ht, hi, hz, hsz, hby, hzs, h0⟩ := hT
  obtain ⟨hl, h1, hsrc⟩ := hsrc
  subst hN; subst hXS
  rcases hsrc with ⟨rfl, rfl⟩ | ⟨ad, c, rfl, hc⟩
  · have : news = [] := List.eq_nil_of_length_eq_zero (by simpa using hl)
    subst this
    obtain ⟨A, c, rfl⟩ := hown.form'
    refine wpList_append_own_none hgd s x t ho 0 e i size ht hi _ n xs hs hown hx (h A c w ⟨by simpa using hown, Chg.refl _ _, fun k hk => .inl hk⟩)
  · refine wpList_plain hgd fun K hK => ?_
    obtain ⟨v', w', hr, h2, h3, _, h5⟩ := run_append_own_at (P := P) w 0 t o.type e i z size bytes ht hi hz hsz hby hzs h0 v n xs hown ad m c news hl hc h1 h63 hbytes (Nat.zero_le _)
    unfold Oper.wp execOp
    simp only [ho, resolve, invoke, builtin, Sem.run_bind, Sem.run_pure, Result.andThen_ok, List.map_toArray, List.map_cons, List.map_nil, hs, hx, hr]
    obtain ⟨A', c', rfl⟩ := (show Own w' e size v' (n + m) (xs ++ news) from h2).form'
    refine hK _ _ (h A' c' w' ⟨h2, Chg.of_grown h3, ?_⟩)
    intro k hk
    rcases h5 with h5 | h5
    · exact .inl (h5 ▸ hk)
    · rw [h5] at hk
      injection hk with hk
      exact .inr (by omega)

end Go.Proofs.Ytkdhhafoohnlnaa
