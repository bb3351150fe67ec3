/-
  Sorted by one key, then by another one: plain.
-/
import Derived.Test.YtkdhhafoohnlnaaSymR
namespace Go.Proofs.Ytkdhhafoohnlnaa

/-- One column's keys, in an order. -/
def pickK (K : List (List Vl)) (l : List Nat) (c : Nat) : List (List Vl) := l.map fun i => [(K.getD i []).getD c Vl.zero]
/-- Both columns, the second one first. -/
def bothR (r : List Vl) : List Vl := [r.getD 1 Vl.zero, r.getD 0 Vl.zero]
def bothK (K : List (List Vl)) : List (List Vl) := K.map bothR
theorem pick_len (K : List (List Vl)) (l : List Nat) (c : Nat) : (pickK K l c).length = l.length := by simp [pickK]
theorem pick_even (K : List (List Vl)) (l : List Nat) (c : Nat) : Even (pickK K l c) 1 := by
  intro r hr
  obtain ⟨i, _, rfl⟩ := List.mem_map.1 hr
  rfl
theorem both_len (K : List (List Vl)) : (bothK K).length = K.length := by simp [bothK]
theorem both_even (K : List (List Vl)) : Even (bothK K) 2 := by
  intro r hr
  obtain ⟨i, _, rfl⟩ := List.mem_map.1 hr
  rfl
theorem pick_getD {K : List (List Vl)} {l : List Nat} {c i x : Nat} (h : l[i]? = some x) : (pickK K l c).getD i [] = [(K.getD x []).getD c Vl.zero] := by
  unfold pickK
  rw [List.getD_eq_getElem?_getD, List.getElem?_map, h]
  rfl
theorem both_getD {K : List (List Vl)} {i : Nat} (h : i < K.length) : (bothK K).getD i [] = bothR (K.getD i []) := by
  unfold bothK
  rw [List.getD_eq_getElem?_getD, List.getElem?_map, List.getD_eq_getElem?_getD, List.getElem?_eq_getElem h]
  rfl
theorem lessK_one (x y : Vl) : lessK [x] [y] [] = (!sameV x y && lessV x y) := by
  rw [lessK_cons]
  cases sameV x y <;> simp [colL, lessK]
theorem lessK_both (a b : List Vl) : lessK (bothR a) (bothR b) [] = if sameV (a.getD 1 Vl.zero) (b.getD 1 Vl.zero) then lessK [a.getD 0 Vl.zero] [b.getD 0 Vl.zero] [] else lessK [a.getD 1 Vl.zero] [b.getD 1 Vl.zero] [] := by
  unfold bothR
  rw [lessK_cons]
  cases h : sameV (a.getD 1 Vl.zero) (b.getD 1 Vl.zero) with
  | true => rfl
  | false => simp only [Bool.false_eq_true, if_false]; rw [lessK_one, h]; simp [colL]
theorem getD_of {l : List Nat} {i x : Nat} (h : l[i]? = some x) : l.getD i 0 = x := by rw [List.getD_eq_getElem?_getD, h]; rfl
theorem range_map_getD (l : List Nat) : (List.range l.length).map (fun i => l.getD i 0) = l := by
  apply List.ext_getElem?
  intro i
  rw [List.getElem?_map]
  by_cases h : i < l.length
  · rw [List.getElem?_range h, List.getElem?_eq_getElem h]
    simp [List.getD_eq_getElem?_getD, h]
  · rw [List.getElem?_eq_none (by simpa using h), List.getElem?_eq_none (by omega)]
    rfl
theorem stable_law {K : List (List Vl)} {l1 l2 : List Nat} (hp1 : l1.Perm (List.range K.length)) (hs1 : l1.Pairwise (TT (pickK K (List.range K.length) 0) [])) (hp2 : l2.Perm (List.range K.length)) (hs2 : l2.Pairwise (TT (pickK K l1 1) [])) :
    (l2.map fun i => l1.getD i 0).Perm (List.range K.length) ∧ (l2.map fun i => l1.getD i 0).Pairwise (TT (bothK K) []) := by
  have hl1 : l1.length = K.length := by rw [hp1.length_eq, List.length_range]
  constructor
  · refine (hp2.map _).trans ?_
    rw [← hl1, range_map_getD, hl1]
    exact hp1
  · rw [List.pairwise_map]
    refine List.Pairwise.imp_of_mem ?_ hs2
    intro i j hi hj h
    have hin : i < l1.length := by rw [hl1]; exact List.mem_range.1 (hp2.mem_iff.1 hi)
    have hjn : j < l1.length := by rw [hl1]; exact List.mem_range.1 (hp2.mem_iff.1 hj)
    obtain ⟨a, ha⟩ : ∃ a, l1[i]? = some a := ⟨_, List.getElem?_eq_getElem hin⟩
    obtain ⟨b, hb⟩ : ∃ a, l1[j]? = some a := ⟨_, List.getElem?_eq_getElem hjn⟩
    rw [getD_of ha, getD_of hb]
    have han : a < K.length := List.mem_range.1 (hp1.mem_iff.1 (List.mem_of_getElem? ha))
    have hbn : b < K.length := List.mem_range.1 (hp1.mem_iff.1 (List.mem_of_getElem? hb))
    have e1 : ltI (pickK K l1 1) [] i j = lessK [(K.getD a []).getD 1 Vl.zero] [(K.getD b []).getD 1 Vl.zero] [] := by unfold ltI; rw [pick_getD ha, pick_getD hb]
    have e2 : ltI (pickK K l1 1) [] j i = lessK [(K.getD b []).getD 1 Vl.zero] [(K.getD a []).getD 1 Vl.zero] [] := by unfold ltI; rw [pick_getD ha, pick_getD hb]
    have ra : (List.range K.length)[a]? = some a := List.getElem?_range han
    have rb : (List.range K.length)[b]? = some b := List.getElem?_range hbn
    have f1 : ltI (pickK K (List.range K.length) 0) [] a b = lessK [(K.getD a []).getD 0 Vl.zero] [(K.getD b []).getD 0 Vl.zero] [] := by unfold ltI; rw [pick_getD ra, pick_getD rb]
    have f2 : ltI (pickK K (List.range K.length) 0) [] b a = lessK [(K.getD b []).getD 0 Vl.zero] [(K.getD a []).getD 0 Vl.zero] [] := by unfold ltI; rw [pick_getD ra, pick_getD rb]
    have g1 : ltI (bothK K) [] a b = lessK (bothR (K.getD a [])) (bothR (K.getD b [])) [] := by unfold ltI; rw [both_getD han, both_getD hbn]
    have g2 : ltI (bothK K) [] b a = lessK (bothR (K.getD b [])) (bothR (K.getD a [])) [] := by unfold ltI; rw [both_getD han, both_getD hbn]
    rw [lessK_both] at g1 g2
    unfold TT at h ⊢
    rw [e1, e2] at h
    rw [g1, g2, sameV_symm ((K.getD b []).getD 1 Vl.zero)]
    cases hs : sameV ((K.getD a []).getD 1 Vl.zero) ((K.getD b []).getD 1 Vl.zero) with
    | false =>
      simp only [Bool.false_eq_true, if_false]
      rcases h with h | ⟨h1, h2⟩
      · exact .inl h
      · rw [lessK_one, sameV_symm, hs, less_or hs] at h1
        refine .inl ?_
        rw [lessK_one, hs]
        simpa using h1
    | true =>
      simp only [if_true]
      have hij : i < j := by
        rcases h with h | ⟨_, h2⟩
        · rw [lessK_one, hs] at h; simp at h
        · exact h2
      have ht := pair_at hs1 hij ha hb
      unfold TT at ht
      rw [f1, f2] at ht
      exact ht
end Go.Proofs.Ytkdhhafoohnlnaa
