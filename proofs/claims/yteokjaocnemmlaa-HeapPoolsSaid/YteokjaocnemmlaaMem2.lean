/-
  Laws of clear and copy on a block of bytes told by a function.
-/
import Derived.Test.YteokjaocnemmlaaBytes
import Derived.Lib.SliceRun
import Derived.Laws.CopyOwn
namespace Go.Proofs.Yteokjaocnemmlaa
open Go.RowKit

theorem row_take_drop (N : Nat) (f g : Nat → Int) (off n : Nat) (h : off + n ≤ N) :
    (row .u8 N f).toList.take off ++ (List.range n).map (fun i => Value.int .u8 (g i)) ++ (row .u8 N f).toList.drop (off + n) = (row .u8 N (splice f off n g)).toList := by
  have hl : ∀ F : Nat → Int, (row .u8 N F).toList = (List.range N).map (fun i => Value.int .u8 (F i)) := by
    intro F
    apply List.ext_getElem?
    intro i
    by_cases hi : i < N <;> simp [row, hi]
  rw [hl, hl]
  apply List.ext_getElem (by simp; omega)
  intro i h1 h2
  have hi : i < N := by simpa using h2
  simp only [List.getElem_append, List.length_append, List.length_take, List.length_map, List.length_range, List.getElem_take, List.getElem_drop, List.getElem_map, List.getElem_range, splice, show min off N = off by omega]
  split
  · split
    · rw [if_neg (by omega)]
    · rw [if_pos (by omega)]
  · rw [if_neg (by omega), show off + n + (i - (off + n)) = i by omega]
theorem setRow_ints {w : World} {b T N : Nat} {f : Nat → Int} (hb : w.heap[b]? = some (ints .u8 T N f)) (g : Nat → Int) : (w.setRow b (row .u8 N g)).heap[b]? = some (ints .u8 T N g) := setRow_heap w b _ _ T (0, 0) hb
theorem Chg.setRow {S : List Nat} {a w : World} (h : Chg S a w) {b : Nat} (hb : b ∈ S ∨ a.heap.size ≤ b) (cs : Array Value) : Chg S a (w.setRow b cs) := by
  refine ⟨h.os, h.tape, h.output, by simpa [World.setRow] using h.size, fun k hk hS => ?_⟩
  rw [setRow_other w b k cs (fun e => by subst e; rcases hb with h1 | h1 <;> first | exact hS h1 | omega)]
  exact h.block k hk hS

section
variable {P : Program}
theorem run_clear_ints (w : World) (t e ty : TypeId) (ht : P.underlying t = some (.slice e)) (hv : ∀ w, (zeroValue e).run P w = .ok (.int .u8 0) w) (b off n c T N : Nat) (f : Nat → Int) (hn : 0 < n) (hb : w.heap[b]? = some (ints .u8 T N f)) (hN : off + n ≤ N) :
    (Builtin.clear_ #[t] ty #[.slice (some ⟨b, off, none⟩) n c]).run P w = .ok (.tuple #[]) (w.setRow b (row .u8 N (splice f off n (fun _ => 0)))) := by
  have hzc : (Builtin.zeroCells (Value.int .u8 0).cells n).toList = (List.range n).map (fun _ => Value.int .u8 0) := by
    simp [Builtin.zeroCells, Value.cells]
    intro a _
    simp [Nat.mod_one]
  have hst := run_storeCells_at P b off T ((List.range n).map (fun _ => Value.int .u8 0)) 0 (row .u8 N f) w hb (by simp [row_size]; omega) (by intro v hv'; obtain ⟨_, _, rfl⟩ := List.mem_map.1 hv'; rfl)
  simp only [Nat.add_zero, List.length_map, List.length_range] at hst
  have e := row_take_drop N f (fun _ => 0) off n hN
  rw [e] at hst
  obtain ⟨m, rfl⟩ : ∃ m, n = m + 1 := ⟨n - 1, by omega⟩
  simp [Builtin.clear_, run_underlying ht, hv, hzc, hst]

/-- .. of none. -/
theorem wpList_clear0 {w : World} {ops : Array Oper} {rest : List Oper} {o : Oper} {a : Act} {Q : Exit → Act → World → Prop} (hgd : o.guard = none) (x : Operand) (t e : TypeId)
    (ho : o.op = .call { callee := .builtin .clear, args := #[x], argTypes := #[t] }) (ht : P.underlying t = some (.slice e)) (A : Option Addr) (c : Nat) (hx : a.eval x = .slice A 0 c)
    (h : wpList P ops Q rest (a.put o.dst (.tuple #[])) w) : wpList P ops Q (o :: rest) a w := by
  refine wpList_plain hgd fun K hK => ?_
  have hrun : (Builtin.clear_ #[t] o.type #[.slice A 0 c]).run P w = .ok (.tuple #[]) w := by
    cases A <;> simp [Builtin.clear_, run_underlying ht]
  unfold Oper.wp
  simp [execOp, ho, resolve, invoke, builtin, hx, hrun, Result.andThen]
  exact hK _ _ h

/-- clear, of bytes in a block. -/
theorem wpList_clear {w : World} {ops : Array Oper} {rest : List Oper} {o : Oper} {a : Act} {Q : Exit → Act → World → Prop} (hgd : o.guard = none) (x : Operand) (t e : TypeId)
    (ho : o.op = .call { callee := .builtin .clear, args := #[x], argTypes := #[t] }) (ht : P.underlying t = some (.slice e)) (hv : ∀ w, (zeroValue e).run P w = .ok (.int .u8 0) w)
    (b off n c T N : Nat) (f : Nat → Int) (hx : a.eval x = .slice (some ⟨b, off, none⟩) n c) (hb : w.heap[b]? = some (ints .u8 T N f)) (hN : off + n ≤ N)
    (h : ∀ w', w'.heap[b]? = some (ints .u8 T N (splice f off n (fun _ => 0))) → Chg [b] w w' → wpList P ops Q rest (a.put o.dst (.tuple #[])) w') : wpList P ops Q (o :: rest) a w := by
  by_cases hn0 : n = 0
  · subst hn0
    exact wpList_clear0 hgd x t e ho ht _ _ hx (h w (by rw [splice_zero]; exact hb) (Chg.refl _ _))
  have hn : 0 < n := by omega
  refine wpList_plain hgd fun K hK => ?_
  have hrun := run_clear_ints (P := P) w t e o.type ht hv b off n c T N f hn hb hN
  unfold Oper.wp
  simp [execOp, ho, resolve, invoke, builtin, hx, hrun, Result.andThen]
  exact hK _ _ (h _ (setRow_ints hb _) ((Chg.refl _ _).setRow (by simp) _))
/-- copy, of bytes onto a block, all of them. -/
theorem wpList_copyb {w : World} {ops : Array Oper} {rest : List Oper} {o : Oper} {a : Act} {Q : Exit → Act → World → Prop} (hgd : o.guard = none) (d s : Operand) (dT sT : TypeId)
    (ho : o.op = .call { callee := .builtin .copy, args := #[d, s], argTypes := #[dT, sT] }) (elem : TypeId) (hu : P.underlying dT = some (.slice elem)) (hsz : (P.info? elem).map (·.size) = some 1)
    (b off dl dc T N : Nat) (ad : Addr) (n sc : Nat) (f : Nat → Int) (l : List Int) (hd : a.eval d = .slice (some ⟨b, off, none⟩) dl dc) (hs : a.eval s = .slice (some ad) n sc) (hl : l.length = n) (hn : n ≤ dl) (hb : w.heap[b]? = some (ints .u8 T N f)) (hN : off + n ≤ N)
    (hsrc : ∀ j v, (l.map (Value.int .u8))[j]? = some v → w.cell? (ad.add j) = some v)
    (h : ∀ w', w'.heap[b]? = some (ints .u8 T N (splice f off n (fun i => l.getD i 0))) → Chg [b] w w' → wpList P ops Q rest (a.put o.dst (goInt n)) w') : wpList P ops Q (o :: rest) a w := by
  refine wpList_plain hgd fun K hK => ?_
  have hrun := run_copy_row (P := P) w dT sT o.type elem b off dl dc ad n sc (row .u8 N f) T (l.map (Value.int .u8)) hu hsz hb (by rw [List.length_map, hl]; show n = min n dl; omega) hsrc (by rw [List.length_map, hl, row_size]; exact hN) (by intro v hv'; obtain ⟨_, _, rfl⟩ := List.mem_map.1 hv'; rfl)
  have el : l.map (Value.int .u8) = (List.range n).map (fun i => Value.int .u8 (l.getD i 0)) := by
    subst hl
    apply List.ext_getElem?
    intro i
    by_cases hi : i < l.length <;> simp [hi]
  have e := row_take_drop N f (fun i => l.getD i 0) off n hN
  rw [List.length_map, hl, el, e] at hrun
  unfold Oper.wp
  simp [execOp, ho, resolve, invoke, builtin, hd, hs, hrun, Result.andThen]
  exact hK _ _ (h _ (setRow_ints hb _) ((Chg.refl _ _).setRow (by simp) _))
end
end Go.Proofs.Yteokjaocnemmlaa
