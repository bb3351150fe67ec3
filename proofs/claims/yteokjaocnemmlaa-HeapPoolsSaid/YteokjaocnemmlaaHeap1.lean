/-
  A heap in memory: what is known of its blocks; the small walks of package heap.
-/
import Derived.Test.YteokjaocnemmlaaPage10
namespace Go.Proofs.Yteokjaocnemmlaa
open Go.RowKit

def ptrV (b : Nat) : Value := .pointer (some ⟨b, 0, none⟩)
/-- A pool: so many pages are left. -/
def PoolAt (w : World) (pl : Nat) (left : Nat) : Prop := w.heap[pl]? = some (.cells #[.int .i64 left] 99 (0, 0))
/-- A page in block b. -/
def PageAt (w : World) (b : Nat) (L : PL) : Prop := ∃ f fr st, Lies w b f ∧ PG f L fr st
/-- Where a heap lies. -/
structure HG where
  hb : Nat
  rb : Nat
  v : Value
  ptrs : List Nat
def HG.foot (G : HG) : List Nat := G.hb :: G.rb :: (G.v.ownBlock.toList ++ G.ptrs)
structure HeapAt (w : World) (pl : Nat) (G : HG) (H : List PL) : Prop where
  head : w.heap[G.hb]? = some (.cells #[ptrV pl, G.v, ptrV G.rb] 102 (0, 0))
  row : Own w 104 1 G.v H.length (G.ptrs.map ptrV)
  nodup : G.ptrs.Nodup
  rooms : IsMap w G.rb (H.map room)
  page : ∀ (i b : Nat) (L : PL), G.ptrs[i]? = some b → H[i]? = some L → PageAt w b L

theorem PageAt.chg {S : List Nat} {w w' : World} {b : Nat} {L : PL} (h : PageAt w b L) (hc : Chg S w w') (hb : b ∉ S) : PageAt w' b L := by
  obtain ⟨f, fr, st, h1, h2⟩ := h
  exact ⟨f, fr, st, hc.heap h1 hb, h2⟩
theorem PoolAt.chg {S : List Nat} {w w' : World} {b left : Nat} (h : PoolAt w b left) (hc : Chg S w w') (hb : b ∉ S) : PoolAt w' b left := hc.heap h hb
theorem HeapAt.len {w : World} {pl : Nat} {G : HG} {H : List PL} (h : HeapAt w pl G H) : G.ptrs.length = H.length := by
  have := h.row.1
  simpa using this
theorem mem_foot {G : HG} {x : Nat} : x ∈ G.foot ↔ x = G.hb ∨ x = G.rb ∨ G.v.ownBlock = some x ∨ x ∈ G.ptrs := by
  unfold HG.foot
  simp only [List.mem_cons, List.mem_append, Option.mem_toList]
theorem HeapAt.pageOf {w : World} {pl : Nat} {G : HG} {H : List PL} (h : HeapAt w pl G H) {b : Nat} (hb : b ∈ G.ptrs) : ∃ L, PageAt w b L := by
  obtain ⟨i, hi, rfl⟩ := List.mem_iff_getElem.1 hb
  have hl := h.len
  exact ⟨H[i], h.page i _ _ (List.getElem?_eq_getElem hi) (List.getElem?_eq_getElem (by omega))⟩
/-- What turns no block of a heap leaves it. -/
theorem HeapAt.chg {S : List Nat} {w w' : World} {pl : Nat} {G : HG} {H : List PL} (h : HeapAt w pl G H) (hc : Chg S w w') (hS : ∀ x, x ∈ G.foot → x ∉ S) : HeapAt w' pl G H := by
  refine ⟨hc.heap h.head (hS _ (mem_foot.2 (.inl rfl))), h.row.chg hc (fun k hk => hS _ (mem_foot.2 (.inr (.inr (.inl hk))))), h.nodup, h.rooms.chg hc (hS _ (mem_foot.2 (.inr (.inl rfl)))), ?_⟩
  intro i b L hb hL
  exact (h.page i b L hb hL).chg hc (hS _ (mem_foot.2 (.inr (.inr (.inr (List.mem_of_getElem? hb))))))
theorem HeapAt.drewN {w : World} {pl : Nat} {G : HG} {H : List PL} (h : HeapAt w pl G H) (n : Nat) : HeapAt (w.drewN n) pl G H :=
  h.chg (S := []) ((Chg.refl _ _).drewN n) (by simp)
theorem PageAt.lt {w : World} {b : Nat} {L : PL} (h : PageAt w b L) : b < w.heap.size := by
  obtain ⟨f, fr, st, h1, _⟩ := h
  exact lt_of_heap h1
theorem HeapAt.lt {w : World} {pl : Nat} {G : HG} {H : List PL} (h : HeapAt w pl G H) : ∀ x, x ∈ G.foot → x < w.heap.size := by
  intro x hx
  rcases mem_foot.1 hx with rfl | rfl | hv | hp
  · exact lt_of_heap h.head
  · exact h.rooms.lt
  · exact h.row.lt' x hv
  · obtain ⟨L, hL⟩ := h.pageOf hp
    exact hL.lt
/-- New blocks are none of a heap's. -/
theorem HeapAt.below {w w' : World} {pl : Nat} {G : HG} {H : List PL} (h : HeapAt w pl G H) {S : List Nat} (hc : Chg S w w') (hS : ∀ x, x ∈ S → w.heap.size ≤ x) : HeapAt w' pl G H :=
  h.chg hc (fun x hx hs => by have := h.lt x hx; have := hS x hs; omega)
/-- Blocks of other types are other blocks. -/
theorem ne_of_type {w : World} {a b t u : Nat} {x y : Array Value} {fa fb : Nat × Nat} (ha : w.heap[a]? = some (.cells x t fa)) (hb : w.heap[b]? = some (.cells y u fb)) (h : t ≠ u) : a ≠ b := by
  intro e
  subst e
  rw [ha] at hb
  injection hb with hb
  injection hb with _ h2
  exact h h2

/-- Which one is at a place. -/
def pageOf (H : List PL) (n : Int) : Option PL := if n < 0 then none else H[n.toNat]?
def slotOf (L : PL) (s : Int) : Option Tup := if s < 0 then none else (L[s.toNat]?).join
def hget (H : List PL) (p s : Int) : Option Tup := (pageOf H p).bind fun L => slotOf L s

/-! ### The pool, New, Left -/
theorem newPool_any (k : Nat) (w : World) (hk : k ≤ 256) :
    Calls Try.prog 22 #[.int .i64 k] w fun e w' => e = .returned (.tuple #[ptrV w.heap.size, .int .i64 0]) ∧ PoolAt w' w.heap.size k ∧ Chg [] w w' ∧ w.heap.size < w'.heap.size := by
  have d0 : decide ((k : Int) < 0) = false := by simp
  have d1 : decide (256 < k) = false := by simp; omega
  go_enter Try.func22, Try.ntmps22
  go_wp2
  go_ret2
  exact ⟨rfl, heap_alloc_new w _, (Chg.refl _ _).alloc _, by simp⟩
theorem newPool_bad (k : Int) (w : World) (hk : k < 0 ∨ 256 < k) :
    Calls Try.prog 22 #[.int .i64 k] w fun e w' => e = .returned (.tuple #[.pointer none, .int .i64 1]) ∧ w = w' := by
  by_cases h0 : k < 0
  · go_enter Try.func22, Try.ntmps22
    go_wp2
    go_ret2
    exact ⟨rfl, rfl⟩
  · have h1 : 256 < k := by omega
    go_enter Try.func22, Try.ntmps22
    go_wp2
    go_ret2
    exact ⟨rfl, rfl⟩
theorem left_nil (w : World) : Calls Try.prog 28 #[.pointer none] w fun e w' => e = .returned (.int .i64 0) ∧ w = w' := by
  go_enter Try.func28, Try.ntmps28
  go_wp2
  go_ret
  exact ⟨rfl, rfl⟩
theorem left_any (pl left : Nat) (w : World) (hp : PoolAt w pl left) : Calls Try.prog 28 #[ptrV pl] w fun e w' => e = .returned (.int .i64 left) ∧ w = w' := by
  have hc : w.cell? ⟨pl, 0, none⟩ = some (.int .i64 left) := by rw [cell_of_row w pl 0 _ _ _ hp]; rfl
  unfold ptrV
  clear hp
  go_enter Try.func28, Try.ntmps28
  go_wp2
  go_ret
  exact ⟨rfl, rfl⟩
theorem heapNew_any (pl : Nat) (w : World) :
    Calls Try.prog 23 #[ptrV pl] w fun e w' => ∃ hb, e = .returned (ptrV hb) ∧ (∃ rb, HeapAt w' pl ⟨hb, rb, .slice none 0 0, []⟩ [] ∧ w.heap.size ≤ hb ∧ w.heap.size ≤ rb) ∧ Chg [] w w' := by
  unfold ptrV
  go_enter Try.func23, Try.ntmps23
  go_wp2_with (first | (go_at_call 13; refine (new_any _).mono ?_; rintro e w1 ⟨rfl, rfl⟩))
  go_ret
  refine ⟨_, rfl, ⟨w.heap.size, ⟨heap_alloc2_new _ _ _, ⟨rfl, .inl ⟨rfl, rfl⟩⟩, by simp, ?_, by simp⟩, by simp, Nat.le_refl _⟩, ((Chg.refl [] w).alloc _).alloc _⟩
  have h1 := IsMap.new w
  exact h1.chg ((Chg.refl [] _).alloc _) (by simp)

end Go.Proofs.Yteokjaocnemmlaa
