/-
  The merge's rows, plain.
-/
import Derived.Test.YtkdhhafoohnlnaaSymQ
import Derived.Test.YtkdhhafoohnlnaaSymP
import Derived.Test.YtkdhhafoohnlnaaGrp2
namespace Go.Proofs.Ytkdhhafoohnlnaa
section
variable {K : List (List Vl)} {d : List Bool} {c : Nat}
structure Two (K : List (List Vl)) (d : List Bool) (L R : List Nat) : Prop where
  sl : L.Pairwise (TT K d)
  sr : R.Pairwise (TT K d)
  cr : ∀ x y, x ∈ L → y ∈ R → x < y
  bd : ∀ x, x ∈ L ++ R → x < K.length
theorem pair_at {R : Nat → Nat → Prop} {l : List Nat} (h : l.Pairwise R) {i j x y : Nat} (hij : i < j) (hx : l[i]? = some x) (hy : l[j]? = some y) : R x y := by
  have hi := getElem?_lt hx
  have hj := getElem?_lt hy
  have := (List.pairwise_iff_getElem.1 h) i j hi hj hij
  rw [List.getElem?_eq_getElem hi] at hx
  rw [List.getElem?_eq_getElem hj] at hy
  injection hx with hx
  injection hy with hy
  rw [hx, hy] at this
  exact this
/-- The row's number at a place. -/
def xAt (xs : List Nat) (q : Nat) : Nat := xs.getD q 0
theorem xAt_get {xs : List Nat} {q : Nat} (h : q < xs.length) : xs[q]? = some (xAt xs q) := by
  unfold xAt
  rw [List.getD_eq_getElem?_getD, List.getElem?_eq_getElem h]
  rfl
theorem at_left {A L R Z : List Nat} {i : Nat} (h1 : A.length ≤ i) (h2 : i < A.length + L.length) : L[i - A.length]? = some (xAt (A ++ L ++ R ++ Z) i) := by
  have h := xAt_get (xs := A ++ L ++ R ++ Z) (q := i) (by simp only [List.length_append]; omega)
  rw [← h, List.append_assoc, List.append_assoc, List.getElem?_append_right h1, List.getElem?_append_left (by omega)]
theorem at_right {A L R Z : List Nat} {i : Nat} (h1 : A.length + L.length ≤ i) (h2 : i < A.length + L.length + R.length) : R[i - (A.length + L.length)]? = some (xAt (A ++ L ++ R ++ Z) i) := by
  have h := xAt_get (xs := A ++ L ++ R ++ Z) (q := i) (by simp only [List.length_append]; omega)
  rw [← h, List.append_assoc, List.getElem?_append_right (by simp only [List.length_append]; omega), List.length_append, List.getElem?_append_left (by omega)]
theorem Two.mrg {A L R Z : List Nat} (h : Two K d L R) {a m b : Nat} (ha : a = A.length) (hm : m = A.length + L.length) (hb : b = A.length + L.length + R.length) : Mrg K d (xAt (A ++ L ++ R ++ Z)) a m b := by
  subst ha hm hb
  refine ⟨fun i j h1 h2 h3 => ?_, fun i j h1 h2 h3 => ?_, fun i j h1 h2 h3 h4 => ?_, fun i h1 h2 => ?_⟩
  · exact pair_at h.sl (i := i - A.length) (j := j - A.length) (by omega) (at_left h1 (by omega)) (at_left (by omega) h3)
  · exact pair_at h.sr (i := i - (A.length + L.length)) (j := j - (A.length + L.length)) (by omega) (at_right h1 (by omega)) (at_right (by omega) h3)
  · exact h.cr _ _ (List.mem_of_getElem? (at_left (Z := Z) (R := R) h1 h2)) (List.mem_of_getElem? (at_right (Z := Z) h3 h4))
  · by_cases h3 : i < A.length + L.length
    · exact h.bd _ (List.mem_append_left _ (List.mem_of_getElem? (at_left (Z := Z) (R := R) h1 h3)))
    · exact h.bd _ (List.mem_append_right _ (List.mem_of_getElem? (at_right (Z := Z) (by omega) h2)))
theorem swap_next (A Z : List Nat) (x y : Nat) : ((A ++ x :: y :: Z).set A.length y).set (A.length + 1) x = A ++ y :: x :: Z := by
  rw [set_mid]
  simp
theorem get_next (A Z : List Nat) (x y : Nat) : (A ++ x :: y :: Z)[A.length + 1]? = some y := by
  rw [List.getElem?_append_right (by omega), show A.length + 1 - A.length = 1 by omega]
  rfl
/-- One, put into a row in order: it stands behind the first t of R1. -/
def upS (A R1 T : List Nat) (x t : Nat) : List Nat := (A ++ R1.take t) ++ x :: (R1.drop t ++ T)
theorem upS_step {A R1 T : List Nat} {x t : Nat} (ht : t < R1.length) : ∃ y, (upS A R1 T x t)[A.length + t]? = some x ∧ (upS A R1 T x t)[A.length + t + 1]? = some y ∧ ((upS A R1 T x t).set (A.length + t) y).set (A.length + t + 1) x = upS A R1 T x (t + 1) := by
  obtain ⟨y, hy⟩ : ∃ y, R1[t]? = some y := ⟨_, List.getElem?_eq_getElem ht⟩
  have dd : R1.drop t = y :: R1.drop (t + 1) := by rw [List.drop_eq_getElem_cons ht]; congr 1; rw [List.getElem?_eq_getElem ht] at hy; injection hy
  have tt : R1.take (t + 1) = R1.take t ++ [y] := by rw [List.take_add_one, hy]; rfl
  have ll : (A ++ R1.take t).length = A.length + t := by rw [List.length_append, List.length_take]; omega
  have e : upS A R1 T x t = (A ++ R1.take t) ++ x :: y :: (R1.drop (t + 1) ++ T) := by unfold upS; rw [dd]; rfl
  refine ⟨y, ?_, ?_, ?_⟩
  · rw [e, ← ll]; exact get_mid _ _ _
  · rw [e, ← ll]; exact get_next _ _ _ _
  · rw [e, ← ll, swap_next]
    unfold upS
    rw [tt]
    simp
theorem upS_zero (A R1 T : List Nat) (x : Nat) : upS A R1 T x 0 = A ++ [x] ++ R1 ++ T := by simp [upS]
theorem upS_done (A R1 T : List Nat) (x : Nat) : upS A R1 T x R1.length = A ++ (R1 ++ [x]) ++ T := by simp [upS]
/-- One, put into a row in order from behind: of L2 the first t are ahead of it. -/
def dnS (A L2 T : List Nat) (y t : Nat) : List Nat := (A ++ L2.take t) ++ y :: (L2.drop t ++ T)
theorem dnS_step {A L2 T : List Nat} {y t : Nat} (ht : t < L2.length) : ∃ x, (dnS A L2 T y (t + 1))[A.length + t + 1]? = some y ∧ (dnS A L2 T y (t + 1))[A.length + t]? = some x ∧ ((dnS A L2 T y (t + 1)).set (A.length + t + 1) x).set (A.length + t) y = dnS A L2 T y t := by
  obtain ⟨x, hx⟩ : ∃ y, L2[t]? = some y := ⟨_, List.getElem?_eq_getElem ht⟩
  have dd : L2.drop t = x :: L2.drop (t + 1) := by rw [List.drop_eq_getElem_cons ht]; congr 1; rw [List.getElem?_eq_getElem ht] at hx; injection hx
  have tt : L2.take (t + 1) = L2.take t ++ [x] := by rw [List.take_add_one, hx]; rfl
  have ll : (A ++ L2.take t).length = A.length + t := by rw [List.length_append, List.length_take]; omega
  have e : dnS A L2 T y (t + 1) = (A ++ L2.take t) ++ x :: y :: (L2.drop (t + 1) ++ T) := by unfold dnS; rw [tt]; simp
  refine ⟨x, ?_, ?_, ?_⟩
  · rw [e, ← ll]; exact get_next _ _ _ _
  · rw [e, ← ll]; exact get_mid _ _ _
  · rw [e, ← ll, swap_mid]
    unfold dnS
    rw [dd]
    simp
theorem dnS_start (A L2 T : List Nat) (y : Nat) : dnS A L2 T y L2.length = A ++ L2 ++ [y] ++ T := by simp [dnS]
theorem dnS_done (A L2 T : List Nat) (y : Nat) : dnS A L2 T y 0 = A ++ ([y] ++ L2) ++ T := by simp [dnS]
/-- Put in: the row is in order. -/
theorem put_sorted {R1 R2 : List Nat} {x : Nat} (h : (R1 ++ R2).Pairwise (TT K d)) (h1 : ∀ y, y ∈ R1 → TT K d y x) (h2 : ∀ y, y ∈ R2 → TT K d x y) : (R1 ++ x :: R2).Pairwise (TT K d) := by
  obtain ⟨p1, p2, p3⟩ := List.pairwise_append.1 h
  refine List.pairwise_append.2 ⟨p1, List.pairwise_cons.2 ⟨h2, p2⟩, fun y hy z hz => ?_⟩
  rcases List.mem_cons.1 hz with e | e
  · rw [e]; exact h1 y hy
  · exact p3 y hy z e
end
end Go.Proofs.Ytkdhhafoohnlnaa
