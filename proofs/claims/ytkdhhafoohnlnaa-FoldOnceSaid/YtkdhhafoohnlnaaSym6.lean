/-
  symMergeCmpFunc, of any two stretches: by the number of rows. Rows of 20, plain.
-/
import Derived.Test.YtkdhhafoohnlnaaSym5
import Derived.Test.YtkdhhafoohnlnaaSrt3
namespace Go.Proofs.Ytkdhhafoohnlnaa
open Go.RowKit

theorem sym_all : ∀ N, SymOK N := by
  intro N
  induction N with
  | zero =>
    intro w wr g n cap a m b bk bd c K d A L R Z hcl he hS h2 hL hR hN
    omega
  | succ N ih =>
    intro w wr g n cap a m b bk bd c K d A L R Z hcl he hS h2 hL hR hN ha hm hb hn
    by_cases h1 : L.length = 1
    · obtain ⟨x, rfl⟩ : ∃ x, L = [x] := List.length_eq_one_iff.1 h1
      exact sym40_one hcl he hS h2 ha (by simpa using hm) (by simpa using hb) hn
    · by_cases h3 : R.length = 1
      · obtain ⟨y, rfl⟩ : ∃ x, R = [x] := List.length_eq_one_iff.1 h3
        exact sym40_last hcl he hS h2 (by omega) ha hm (by simpa using hb) hn
      · by_cases h4 : (a + b) / 2 < m
        · exact sym40_genA ih hcl he hS h2 (by omega) (by omega) hN ha hm hb hn rfl h4
        · exact sym40_genB ih hcl he hS h2 (by omega) (by omega) hN ha hm hb hn rfl (by omega)

/-- The rows from 20 on. -/
def tail20 (n : Nat) : List Nat := List.range' 20 (n - 20)
theorem range_20 {n : Nat} (h : 20 ≤ n) : List.range n = List.range 20 ++ tail20 n := by
  unfold tail20
  rw [List.range_eq_range', List.range_eq_range']
  have := List.range'_append (s := 0) (m := 20) (n := n - 20) (step := 1)
  simp only [Nat.zero_add, Nat.one_mul] at this
  rw [this]
  congr 1
  omega
theorem tail20_len (n : Nat) : (tail20 n).length = n - 20 := by simp [tail20]
theorem tail20_mem {n x : Nat} (h : x ∈ tail20 n) : 20 ≤ x ∧ x < 20 + (n - 20) := by
  unfold tail20 at h
  rw [List.mem_range'_1] at h
  exact h
theorem tail20_lt (n : Nat) : (tail20 n).Pairwise (· < ·) := by
  unfold tail20
  exact List.pairwise_lt_range'
/-- Two stretches, each in order, of the first 20 rows and of the others. -/
theorem two_20 {n : Nat} {K : List (List Vl)} {d : List Bool} {p q : List Nat} (h : 20 ≤ n) (hnK : n ≤ K.length) (hp : p.Perm (List.range 20)) (hq : q.Perm (tail20 n)) (sp : p.Pairwise (TT K d)) (sq : q.Pairwise (TT K d)) : Two K d p q := by
  refine ⟨sp, sq, fun x y hx hy => ?_, fun x hx => ?_⟩
  · have h1 := List.mem_range.1 (hp.mem_iff.1 hx)
    have h2 := tail20_mem (hq.mem_iff.1 hy)
    omega
  · rcases List.mem_append.1 hx with e | e
    · have h1 := List.mem_range.1 (hp.mem_iff.1 e)
      omega
    · have h2 := tail20_mem (hq.mem_iff.1 e)
      omega
end Go.Proofs.Ytkdhhafoohnlnaa
