/-
  The document's examples: they answer as it says.
-/
import Derived.Test.YtkdhhafoohnlnaaAwk1
namespace Go.Proofs.Ytkdhhafoohnlnaa
open Go.RowKit

def nv (i : Int) : Vl := ⟨1, i, ⟨#[]⟩, false⟩
def AK : List (List Vl) := [[nv 2], [nv 1], [nv 2], [Vl.zero]]
theorem AK_even : Even AK 1 := by
  intro r hr
  simp only [AK, List.mem_cons, List.not_mem_nil, or_false] at hr
  rcases hr with rfl | rfl | rfl | rfl <;> rfl
theorem AK_grp : grpN AK AK.length = [[0, 2], [1], [3]] := by decide
theorem tt_dec {d : List Bool} {i j : Nat} (h : (ltI AK d i j || (!ltI AK d j i && decide (i < j))) = true) : TT AK d i j := by
  unfold TT
  simp only [Bool.or_eq_true, Bool.and_eq_true, Bool.not_eq_true', decide_eq_true_eq] at h
  exact h
theorem AK_up {l : List Nat} (hp : l.Perm (List.range AK.length)) (h : l.Pairwise (TT AK [])) : l = [3, 1, 0, 2] := by
  refine sorted_unique (fun i j => TT.asymm) (hp.trans (by decide)) h ?_
  simp only [List.pairwise_cons, List.mem_cons, List.not_mem_nil, or_false, forall_eq_or_imp, forall_eq, List.Pairwise.nil, and_true]
  refine ⟨⟨?_, ?_, ?_⟩, ⟨?_, ?_⟩, ?_, ?_⟩
  all_goals first | (intro _ h; cases h) | exact tt_dec (by decide)
theorem AK_down {l : List Nat} (hp : l.Perm (List.range AK.length)) (h : l.Pairwise (TT AK [true])) : l = [0, 2, 1, 3] := by
  refine sorted_unique (fun i j => TT.asymm) (hp.trans (by decide)) h ?_
  simp only [List.pairwise_cons, List.mem_cons, List.not_mem_nil, or_false, forall_eq_or_imp, forall_eq, List.Pairwise.nil, and_true]
  refine ⟨⟨?_, ?_, ?_⟩, ⟨?_, ?_⟩, ?_, ?_⟩
  all_goals first | (intro _ h; cases h) | exact tt_dec (by decide)

abbrev nO (i : Int) : Obj := .cells #[.int .u8 1, .int .i64 i, .string ⟨#[]⟩, .bool false] 39
abbrev zO : Obj := .cells #[.int .u8 0, .int .i64 0, .string ⟨#[]⟩, .bool false] 39
abbrev aO (k : Nat) : Obj := .cells #[.slice (some ⟨k, 0, none⟩) 1 1, .slice (some ⟨k + 1, 0, none⟩) 1 1, .slice (some ⟨k + 2, 0, none⟩) 1 1, .slice (some ⟨k + 3, 0, none⟩) 1 1] 34
abbrev aW (w : World) : World := ((((w.alloc (nO 2)).alloc (nO 1)).alloc (nO 2)).alloc zO).alloc (aO w.heap.size)
theorem row_one {w : World} {b : Nat} {x : Vl} (h : w.heap[b]? = some (.cells #[.int .u8 x.k, .int .i64 x.i, .string x.s, .bool x.b] 39 (0, 0))) : RowAt w (.slice (some ⟨b, 0, none⟩) 1 1) [x] := by
  refine ⟨_, _, rfl, fun j y hy => ?_⟩
  have hj := getElem?_lt hy
  have hj0 : j = 0 := by simp at hj; omega
  subst hj0
  simp at hy
  subst hy
  exact ⟨b, 0, rfl, by rw [cell_of_row _ _ _ _ _ _ h]; rfl, by rw [cell_of_row _ _ _ _ _ _ h]; rfl, by rw [cell_of_row _ _ _ _ _ _ h]; rfl, by rw [cell_of_row _ _ _ _ _ _ h]; rfl⟩
theorem aW_chg (w : World) : Chg [] w (aW w) := ((((((Chg.refl [] w).alloc _).alloc _).alloc _).alloc _).alloc _)
theorem aW_keys (w : World) : KeysAt (aW w) (.slice (some ⟨w.heap.size + 4, 0, none⟩) 4 4) AK := by
  have h0 : (aW w).heap[w.heap.size]? = some (.cells #[.int .u8 1, .int .i64 2, .string ⟨#[]⟩, .bool false] 39 (0, 0)) :=
    (((((Chg.refl [] (w.alloc (nO 2))).alloc (nO 1)).alloc (nO 2)).alloc zO).alloc (aO w.heap.size)).heap (heap_alloc_new w (nO 2)) (by simp)
  have h1 : (aW w).heap[w.heap.size + 1]? = some (.cells #[.int .u8 1, .int .i64 1, .string ⟨#[]⟩, .bool false] 39 (0, 0)) := by
    have := heap_alloc_new (w.alloc (nO 2)) (nO 1)
    rw [show (w.alloc (nO 2)).heap.size = w.heap.size + 1 by simp] at this
    exact ((((Chg.refl [] ((w.alloc (nO 2)).alloc (nO 1))).alloc (nO 2)).alloc zO).alloc (aO w.heap.size)).heap this (by simp)
  have h2 : (aW w).heap[w.heap.size + 2]? = some (.cells #[.int .u8 1, .int .i64 2, .string ⟨#[]⟩, .bool false] 39 (0, 0)) := by
    have := heap_alloc_new ((w.alloc (nO 2)).alloc (nO 1)) (nO 2)
    rw [show ((w.alloc (nO 2)).alloc (nO 1)).heap.size = w.heap.size + 2 by simp] at this
    exact (((Chg.refl [] (((w.alloc (nO 2)).alloc (nO 1)).alloc (nO 2))).alloc zO).alloc (aO w.heap.size)).heap this (by simp)
  have h3 : (aW w).heap[w.heap.size + 3]? = some (.cells #[.int .u8 0, .int .i64 0, .string ⟨#[]⟩, .bool false] 39 (0, 0)) := by
    have := heap_alloc_new (((w.alloc (nO 2)).alloc (nO 1)).alloc (nO 2)) zO
    rw [show (((w.alloc (nO 2)).alloc (nO 1)).alloc (nO 2)).heap.size = w.heap.size + 3 by simp] at this
    exact ((Chg.refl [] ((((w.alloc (nO 2)).alloc (nO 1)).alloc (nO 2)).alloc zO)).alloc (aO w.heap.size)).heap this (by simp)
  have h4 : (aW w).heap[w.heap.size + 4]? = some (aO w.heap.size) := by
    have := heap_alloc_new ((((w.alloc (nO 2)).alloc (nO 1)).alloc (nO 2)).alloc zO) (aO w.heap.size)
    rw [show ((((w.alloc (nO 2)).alloc (nO 1)).alloc (nO 2)).alloc zO).heap.size = w.heap.size + 4 by simp] at this
    exact this
  refine ⟨some ⟨w.heap.size + 4, 0, none⟩, 4, fun j => .slice (some ⟨w.heap.size + j, 0, none⟩) 1 1, rfl, fun j l hl => ⟨_, _, rfl, ?_, ?_⟩⟩
  · have hj := getElem?_lt hl
    have hj4 : j < 4 := hj
    rw [cell_of_row _ _ _ _ _ _ h4]
    match j, hj4 with
    | 0, _ => rfl
    | 1, _ => rfl
    | 2, _ => rfl
    | 3, _ => rfl
  · have hj := getElem?_lt hl
    have hj4 : j < 4 := hj
    match j, hj4, hl with
    | 0, _, hl => injection hl with hl; subst hl; exact row_one (x := nv 2) h0
    | 1, _, hl => injection hl with hl; subst hl; exact row_one (x := nv 1) h1
    | 2, _, hl => injection hl with hl; subst hl; exact row_one (x := nv 2) h2
    | 3, _, hl => injection hl with hl; subst hl; exact row_one (x := Vl.zero) h3
end Go.Proofs.Ytkdhhafoohnlnaa
