/-
  Swaps of stretches, plain.
-/
import Derived.Test.YtkdhhafoohnlnaaSrtP
namespace Go.Proofs.Ytkdhhafoohnlnaa

theorem set_midN (A : List Nat) (u v : Nat) (Z : List Nat) : (A ++ u :: Z).set A.length v = A ++ v :: Z := by
  rw [List.set_append_right _ _ (Nat.le_refl _), Nat.sub_self]
  rfl
theorem swap_far (A B Z : List Nat) (u v : Nat) : ((A ++ u :: (B ++ v :: Z)).set A.length v).set (A.length + 1 + B.length) u = A ++ v :: (B ++ u :: Z) := by
  rw [set_midN]
  have e : A ++ v :: (B ++ v :: Z) = (A ++ v :: B) ++ v :: Z := by simp
  have e2 : A ++ v :: (B ++ u :: Z) = (A ++ v :: B) ++ u :: Z := by simp
  have l : A.length + 1 + B.length = (A ++ v :: B).length := by simp; omega
  rw [e, e2, l, set_midN]
theorem get_mid' (A : List Nat) (u : Nat) (Z : List Nat) : (A ++ u :: Z)[A.length]? = some u := by
  rw [List.getElem?_append_right (Nat.le_refl _), Nat.sub_self]
  rfl
/-- The state of swapRange at round i. -/
def swS (A U W V Z : List Nat) (i : Nat) : List Nat := A ++ V.take i ++ (U.drop i ++ (W ++ (U.take i ++ (V.drop i ++ Z))))
theorem swS_zero (A U W V Z : List Nat) : swS A U W V Z 0 = A ++ U ++ W ++ V ++ Z := by simp [swS]
theorem swS_done {A U W V Z : List Nat} {n : Nat} (hU : U.length = n) (hV : V.length = n) : swS A U W V Z n = A ++ V ++ W ++ U ++ Z := by
  unfold swS
  rw [List.take_of_length_le (by omega), List.drop_of_length_le (by omega), List.take_of_length_le (by omega), List.drop_of_length_le (by omega)]
  simp
theorem swS_step {A U W V Z : List Nat} {i : Nat} (hU : i < U.length) (hV : U.length = V.length) : ∃ u v, (swS A U W V Z i)[A.length + i]? = some u ∧ (swS A U W V Z i)[A.length + U.length + W.length + i]? = some v ∧
    ((swS A U W V Z i).set (A.length + i) v).set (A.length + U.length + W.length + i) u = swS A U W V Z (i + 1) := by
  obtain ⟨u, hu⟩ : ∃ u, U[i]? = some u := ⟨_, List.getElem?_eq_getElem hU⟩
  obtain ⟨v, hv⟩ : ∃ v, V[i]? = some v := ⟨_, List.getElem?_eq_getElem (by omega)⟩
  have dU : U.drop i = u :: U.drop (i + 1) := by rw [List.drop_eq_getElem_cons hU]; congr 1; rw [List.getElem?_eq_getElem hU] at hu; injection hu
  have dV : V.drop i = v :: V.drop (i + 1) := by rw [List.drop_eq_getElem_cons (by omega)]; congr 1; rw [List.getElem?_eq_getElem (by omega)] at hv; injection hv
  have tU : U.take (i + 1) = U.take i ++ [u] := by rw [List.take_add_one, hu]; rfl
  have tV : V.take (i + 1) = V.take i ++ [v] := by rw [List.take_add_one, hv]; rfl
  have e : swS A U W V Z i = (A ++ V.take i) ++ u :: ((U.drop (i + 1) ++ W ++ U.take i) ++ v :: (V.drop (i + 1) ++ Z)) := by
    unfold swS
    rw [dU, dV]
    simp
  have l1 : (A ++ V.take i).length = A.length + i := by simp; omega
  have l2 : (A ++ V.take i).length + 1 + (U.drop (i + 1) ++ W ++ U.take i).length = A.length + U.length + W.length + i := by simp; omega
  refine ⟨u, v, ?_, ?_, ?_⟩
  · rw [e, ← l1]; exact get_mid' _ _ _
  · have e2 : (A ++ V.take i) ++ u :: ((U.drop (i + 1) ++ W ++ U.take i) ++ v :: (V.drop (i + 1) ++ Z)) = ((A ++ V.take i) ++ u :: (U.drop (i + 1) ++ W ++ U.take i)) ++ v :: (V.drop (i + 1) ++ Z) := by simp
    have l3 : ((A ++ V.take i) ++ u :: (U.drop (i + 1) ++ W ++ U.take i)).length = A.length + U.length + W.length + i := by rw [← l2]; simp; omega
    rw [e, e2, ← l3]
    exact get_mid' _ _ _
  · rw [e, ← l1, ← l2, swap_far]
    unfold swS
    rw [tU, tV]
    simp
end Go.Proofs.Ytkdhhafoohnlnaa
