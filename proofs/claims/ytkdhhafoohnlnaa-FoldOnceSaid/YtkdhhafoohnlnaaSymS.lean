/-
  The halves of the merge, plain.
-/
import Derived.Test.YtkdhhafoohnlnaaSymR
namespace Go.Proofs.Ytkdhhafoohnlnaa
section
variable {K : List (List Vl)} {d : List Bool} {c : Nat} {L1 L2 R1 R2 : List Nat}
theorem Two.left (h : Two K d (L1 ++ L2) (R1 ++ R2)) : Two K d L1 R1 :=
  ⟨(List.pairwise_append.1 h.sl).1, (List.pairwise_append.1 h.sr).1, fun x y hx hy => h.cr x y (List.mem_append_left _ hx) (List.mem_append_left _ hy), fun x hx => h.bd x (by
    rcases List.mem_append.1 hx with e | e
    · exact List.mem_append_left _ (List.mem_append_left _ e)
    · exact List.mem_append_right _ (List.mem_append_left _ e))⟩
theorem Two.right (h : Two K d (L1 ++ L2) (R1 ++ R2)) : Two K d L2 R2 :=
  ⟨(List.pairwise_append.1 h.sl).2.1, (List.pairwise_append.1 h.sr).2.1, fun x y hx hy => h.cr x y (List.mem_append_right _ hx) (List.mem_append_right _ hy), fun x hx => h.bd x (by
    rcases List.mem_append.1 hx with e | e
    · exact List.mem_append_left _ (List.mem_append_right _ e)
    · exact List.mem_append_right _ (List.mem_append_right _ e))⟩
theorem Two.one {L R : List Nat} (h : Two K d L R) (he : L.length = 0 ∨ R.length = 0) : (L ++ R).Pairwise (TT K d) := by
  rcases he with e | e
  · rw [List.length_eq_zero_iff.1 e]; simpa using h.sr
  · rw [List.length_eq_zero_iff.1 e]; simpa using h.sl
theorem assemble {p1 p2 : List Nat} (h1 : p1.Perm (L1 ++ R1)) (h2 : p2.Perm (L2 ++ R2)) (s1 : p1.Pairwise (TT K d)) (s2 : p2.Pairwise (TT K d)) (hx : ∀ x y, x ∈ L1 ++ R1 → y ∈ L2 ++ R2 → TT K d x y) : (p1 ++ p2).Perm ((L1 ++ L2) ++ (R1 ++ R2)) ∧ (p1 ++ p2).Pairwise (TT K d) := by
  refine ⟨?_, List.pairwise_append.2 ⟨s1, s2, fun x hxm y hym => hx x y (h1.mem_iff.1 hxm) (h2.mem_iff.1 hym)⟩⟩
  refine (h1.append h2).trans ?_
  have e : (R1 ++ (L2 ++ R2)).Perm (L2 ++ (R1 ++ R2)) := by
    rw [← List.append_assoc, ← List.append_assoc]
    exact List.Perm.append_right _ List.perm_append_comm
  rw [List.append_assoc, List.append_assoc]
  exact List.Perm.append_left _ e
/-- The parts' elements, from their places. -/
theorem cross_lists {A Z : List Nat} {a m b st e : Nat} (ha : a = A.length) (hm : m = A.length + (L1 ++ L2).length) (hb : b = A.length + (L1 ++ L2).length + (R1 ++ R2).length) (hst : st = a + L1.length) (he : e = m + R1.length)
    (hx : ∀ i j, ((a ≤ i ∧ i < st) ∨ (m ≤ i ∧ i < e)) → ((st ≤ j ∧ j < m) ∨ (e ≤ j ∧ j < b)) → TT K d (xAt (A ++ (L1 ++ L2) ++ (R1 ++ R2) ++ Z) i) (xAt (A ++ (L1 ++ L2) ++ (R1 ++ R2) ++ Z) j)) :
    ∀ x y, x ∈ L1 ++ R1 → y ∈ L2 ++ R2 → TT K d x y := by
  have gl : ∀ (q x : Nat), (L1 ++ L2)[q]? = some x → xAt (A ++ (L1 ++ L2) ++ (R1 ++ R2) ++ Z) (a + q) = x := by
    intro q x hq
    have hql := getElem?_lt hq
    have := at_left (A := A) (L := L1 ++ L2) (R := R1 ++ R2) (Z := Z) (i := a + q) (by omega) (by omega)
    rw [show a + q - A.length = q by omega, hq] at this
    injection this with this
    exact this.symm
  have gr : ∀ (q x : Nat), (R1 ++ R2)[q]? = some x → xAt (A ++ (L1 ++ L2) ++ (R1 ++ R2) ++ Z) (m + q) = x := by
    intro q x hq
    have hql := getElem?_lt hq
    have := at_right (A := A) (L := L1 ++ L2) (R := R1 ++ R2) (Z := Z) (i := m + q) (by omega) (by omega)
    rw [show m + q - (A.length + (L1 ++ L2).length) = q by omega, hq] at this
    injection this with this
    exact this.symm
  simp only [List.length_append] at hm hb
  have fx : ∀ x, x ∈ L1 ++ R1 → ∃ i, ((a ≤ i ∧ i < st) ∨ (m ≤ i ∧ i < e)) ∧ xAt (A ++ (L1 ++ L2) ++ (R1 ++ R2) ++ Z) i = x := by
    intro x hxm
    rcases List.mem_append.1 hxm with h | h
    · obtain ⟨q, hq⟩ := List.getElem?_of_mem h
      have hql := getElem?_lt hq
      exact ⟨a + q, .inl ⟨by omega, by omega⟩, gl q x (by rw [List.getElem?_append_left hql]; exact hq)⟩
    · obtain ⟨q, hq⟩ := List.getElem?_of_mem h
      have hql := getElem?_lt hq
      exact ⟨m + q, .inr ⟨by omega, by omega⟩, gr q x (by rw [List.getElem?_append_left hql]; exact hq)⟩
  have fy : ∀ y, y ∈ L2 ++ R2 → ∃ j, ((st ≤ j ∧ j < m) ∨ (e ≤ j ∧ j < b)) ∧ xAt (A ++ (L1 ++ L2) ++ (R1 ++ R2) ++ Z) j = y := by
    intro y hym
    rcases List.mem_append.1 hym with h | h
    · obtain ⟨q, hq⟩ := List.getElem?_of_mem h
      have hql := getElem?_lt hq
      exact ⟨a + (L1.length + q), .inl ⟨by omega, by omega⟩, gl (L1.length + q) y (by rw [List.getElem?_append_right (by omega), show L1.length + q - L1.length = q by omega]; exact hq)⟩
    · obtain ⟨q, hq⟩ := List.getElem?_of_mem h
      have hql := getElem?_lt hq
      exact ⟨m + (R1.length + q), .inr ⟨by omega, by omega⟩, gr (R1.length + q) y (by rw [List.getElem?_append_right (by omega), show R1.length + q - R1.length = q by omega]; exact hq)⟩
  intro x y hxm hym
  obtain ⟨i, hi, rfl⟩ := fx x hxm
  obtain ⟨j, hj, rfl⟩ := fy y hym
  exact hx i j hi hj
end
end Go.Proofs.Ytkdhhafoohnlnaa
