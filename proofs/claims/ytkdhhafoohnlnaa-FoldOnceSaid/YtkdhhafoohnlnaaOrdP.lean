/-
  The order of rows, plain: of rows of one length it is a strict weak one; with the rows' numbers behind it a total one.
-/
import Derived.Test.YtkdhhafoohnlnaaRows1
namespace Go.Proofs.Ytkdhhafoohnlnaa

theorem sameV_symm (x y : Vl) : sameV x y = sameV y x := by unfold sameV; rw [Bool.and_comm]
theorem sameV_less {x y z : Vl} (h : sameV x y = true) : lessV x z = lessV y z ∧ lessV z x = lessV z y := by
  unfold lessV
  rw [sameV_iff.1 h]
  exact ⟨rfl, rfl⟩
theorem sameV_same {x y z : Vl} (h : sameV x y = true) : sameV x z = sameV y z := by
  unfold sameV
  rw [(sameV_less h).1, (sameV_less h).2]
theorem lessV_asymm {x y : Vl} (h : lessV x y = true) : lessV y x = false := lexL_asymm _ _ h
theorem lessV_trans {x y z : Vl} (h : lessV x y = true) (h' : lessV y z = true) : lessV x z = true := lexL_trans _ _ _ h h'
theorem less_or {x y : Vl} (h : sameV x y = false) : lessV y x = !lessV x y := by
  unfold sameV at h
  cases h1 : lessV x y with
  | true => exact lessV_asymm h1
  | false => rw [h1] at h; simpa using h
/-- One column's order. -/
def colL (d : Bool) (x y : Vl) : Bool := lessV x y != d
theorem colL_swap {d : Bool} {x y : Vl} (h : sameV x y = false) : colL d y x = !colL d x y := by
  unfold colL
  rw [less_or h]
  cases lessV x y <;> cases d <;> rfl
theorem colL_trans {d : Bool} {x y z : Vl} (h1 : sameV x y = false) (h2 : sameV y z = false) (a : colL d x y = true) (b : colL d y z = true) : sameV x z = false ∧ colL d x z = true := by
  unfold colL at *
  cases d with
  | false =>
    simp at a b
    have := lessV_trans a b
    refine ⟨?_, by simpa using this⟩
    unfold sameV
    rw [this]; rfl
  | true =>
    simp at a b
    have a' : lessV y x = true := by rw [less_or h1, a]; rfl
    have b' : lessV z y = true := by rw [less_or h2, b]; rfl
    have := lessV_trans b' a'
    refine ⟨?_, by have := lessV_asymm this; simpa using this⟩
    unfold sameV
    rw [this]
    simp
theorem lessK_cons (x y : Vl) (a b : List Vl) (d : List Bool) : lessK (x :: a) (y :: b) d = if sameV x y then lessK a b d.tail else colL (d.headD false) x y := rfl
theorem lessK_irrefl (a : List Vl) (d : List Bool) : lessK a a d = false := by
  induction a generalizing d with
  | nil => rfl
  | cons x a ih => rw [lessK_cons, if_pos (sameV_iff.2 rfl)]; exact ih _
theorem lessK_asymm {a b : List Vl} {d : List Bool} (h : lessK a b d = true) : lessK b a d = false := by
  induction a generalizing b d with
  | nil => cases b <;> simp [lessK] at h
  | cons x a ih =>
    cases b with
    | nil => rfl
    | cons y b =>
      rw [lessK_cons] at h ⊢
      rw [sameV_symm y x]
      cases hs : sameV x y with
      | true => rw [hs] at h; exact ih h
      | false =>
        rw [hs] at h
        simp only [Bool.false_eq_true, if_false] at h ⊢
        rw [colL_swap hs, h]; rfl
theorem sameK_symm (a b : List Vl) : sameK a b = sameK b a := by
  rw [Bool.eq_iff_iff, sameK_iff, sameK_iff]
  exact ⟨Eq.symm, Eq.symm⟩
/-- Of rows of one length: either is ahead, or they have one key. -/
theorem lessK_total {a b : List Vl} {d : List Bool} (hl : a.length = b.length) (h1 : lessK a b d = false) (h2 : lessK b a d = false) : sameK a b = true := by
  induction a generalizing b d with
  | nil => cases b with
    | nil => rfl
    | cons => simp at hl
  | cons x a ih =>
    cases b with
    | nil => simp at hl
    | cons y b =>
      rw [lessK_cons] at h1 h2
      rw [sameV_symm y x] at h2
      cases hs : sameV x y with
      | true =>
        rw [hs] at h1 h2
        show (sameV x y && sameK a b) = true
        rw [hs, ih (by simpa using hl) h1 h2]; rfl
      | false =>
        rw [hs] at h1 h2
        simp only [Bool.false_eq_true, if_false] at h1 h2
        rw [colL_swap hs, h1] at h2
        cases h2
theorem sameK_less {a b c : List Vl} {d : List Bool} (h : sameK a b = true) : lessK a c d = lessK b c d ∧ lessK c a d = lessK c b d := by
  induction a generalizing b c d with
  | nil => cases b with
    | nil => exact ⟨rfl, rfl⟩
    | cons => simp [sameK] at h
  | cons x a ih =>
    cases b with
    | nil => simp [sameK] at h
    | cons y b =>
      simp only [sameK, Bool.and_eq_true] at h
      cases c with
      | nil => exact ⟨rfl, rfl⟩
      | cons z c =>
        obtain ⟨i1, i2⟩ := ih (c := c) (d := d.tail) h.2
        rw [lessK_cons, lessK_cons, lessK_cons, lessK_cons]
        rw [sameV_same h.1, sameV_symm z x, sameV_same h.1, sameV_symm z y, i1, i2]
        unfold colL
        rw [(sameV_less h.1).1, (sameV_less h.1).2]
        exact ⟨rfl, rfl⟩
theorem lessK_trans {a b c : List Vl} {d : List Bool} (h1 : lessK a b d = true) (h2 : lessK b c d = true) (hl : a.length = c.length) : lessK a c d = true := by
  induction a generalizing b c d with
  | nil => cases b <;> simp [lessK] at h1
  | cons x a ih =>
    cases b with
    | nil => simp [lessK] at h1
    | cons y b =>
      cases c with
      | nil => simp at hl
      | cons z c =>
        rw [lessK_cons] at h1 h2 ⊢
        cases hxy : sameV x y with
        | true =>
          rw [hxy] at h1
          rw [sameV_same hxy]
          cases hyz : sameV y z with
          | true => rw [hyz] at h2; exact ih h1 h2 (by simpa using hl)
          | false =>
            rw [hyz] at h2
            simp only [Bool.false_eq_true, if_false] at h2 ⊢
            unfold colL at h2 ⊢
            rw [(sameV_less hxy).1]
            exact h2
        | false =>
          rw [hxy] at h1
          simp only [Bool.false_eq_true, if_false] at h1
          cases hyz : sameV y z with
          | true =>
            have e : sameV x z = sameV x y := by rw [sameV_symm x z, ← sameV_same hyz, sameV_symm y x]
            rw [e, hxy]
            simp only [Bool.false_eq_true, if_false]
            unfold colL at h1 ⊢
            rw [← (sameV_less hyz).2]
            exact h1
          | false =>
            rw [hyz] at h2
            simp only [Bool.false_eq_true, if_false] at h2
            obtain ⟨e1, e2⟩ := colL_trans hxy hyz h1 h2
            rw [e1]
            simpa using e2

/-- Is row i ahead of row j? -/
def ltI (K : List (List Vl)) (d : List Bool) (i j : Nat) : Bool := lessK (K.getD i []) (K.getD j []) d
/-- .. the rows' numbers behind it. -/
def TT (K : List (List Vl)) (d : List Bool) (i j : Nat) : Prop := ltI K d i j = true ∨ (ltI K d j i = false ∧ i < j)
section
variable {K : List (List Vl)} {d : List Bool} {c : Nat}
/-- All rows are of one length. -/
def Even (K : List (List Vl)) (c : Nat) : Prop := ∀ r, r ∈ K → r.length = c
theorem Even.getD (h : Even K c) {i : Nat} (hi : i < K.length) : (K.getD i []).length = c := by
  rw [List.getD_eq_getElem?_getD, List.getElem?_eq_getElem hi]
  exact h _ (List.getElem_mem hi)
theorem TT.irrefl (i : Nat) : ¬ TT K d i i := by
  rintro (h | ⟨_, h⟩)
  · unfold ltI at h; rw [lessK_irrefl] at h; cases h
  · omega
theorem TT.asymm {i j : Nat} (h : TT K d i j) : ¬ TT K d j i := by
  rintro h'
  rcases h with h | ⟨h1, h2⟩ <;> rcases h' with k | ⟨k1, k2⟩
  · unfold ltI at *; rw [lessK_asymm h] at k; cases k
  · rw [h] at k1; cases k1
  · rw [k] at h1; cases h1
  · omega
theorem TT.total {i j : Nat} (h : i ≠ j) : TT K d i j ∨ TT K d j i := by
  unfold TT
  cases h1 : ltI K d i j with
  | true => exact .inl (.inl rfl)
  | false =>
    cases h2 : ltI K d j i with
    | true => exact .inr (.inl rfl)
    | false =>
      rcases Nat.lt_or_gt_of_ne h with hh | hh
      · exact .inl (.inr ⟨rfl, hh⟩)
      · exact .inr (.inr ⟨rfl, hh⟩)
theorem TT.trans (he : Even K c) {i j k : Nat} (hi : i < K.length) (hj : j < K.length) (hk : k < K.length) (h : TT K d i j) (h' : TT K d j k) : TT K d i k := by
  have li := he.getD hi
  have lj := he.getD hj
  have lk := he.getD hk
  unfold TT ltI at *
  rcases h with h | ⟨h1, h2⟩ <;> rcases h' with k' | ⟨k1, k2⟩
  · exact .inl (lessK_trans h k' (by omega))
  · cases hjk : lessK (K.getD j []) (K.getD k []) d with
    | true => exact .inl (lessK_trans h hjk (by omega))
    | false =>
      have hs := lessK_total (by omega) hjk k1
      rw [(sameK_less hs).2] at h
      exact .inl h
  · cases hij : lessK (K.getD i []) (K.getD j []) d with
    | true => exact .inl (lessK_trans hij k' (by omega))
    | false =>
      have hs := lessK_total (by omega) hij h1
      rw [← (sameK_less hs).1] at k'
      exact .inl k'
  · cases hij : lessK (K.getD i []) (K.getD j []) d with
    | true =>
      cases hjk : lessK (K.getD j []) (K.getD k []) d with
      | true => exact .inl (lessK_trans hij hjk (by omega))
      | false =>
        have hs := lessK_total (by omega) hjk k1
        rw [(sameK_less hs).2] at hij
        exact .inl hij
    | false =>
      have hs := lessK_total (by omega) hij h1
      rw [(sameK_less hs).1, (sameK_less hs).2]
      cases hjk : lessK (K.getD j []) (K.getD k []) d with
      | true => exact .inl rfl
      | false => exact .inr ⟨k1, by omega⟩
/-- Where the one has the greater number the rows alone tell. -/
theorem TT.cross {i j : Nat} (h : i < j) : (TT K d j i ↔ ltI K d j i = true) ∧ (ltI K d j i = false → TT K d i j) := by
  refine ⟨⟨fun hh => ?_, fun hh => .inl hh⟩, fun hh => .inr ⟨hh, h⟩⟩
  rcases hh with hh | ⟨_, hh⟩
  · exact hh
  · omega
end
/-- Two arrangements of the same, both in order, are one. -/
theorem sorted_unique {R : Nat → Nat → Prop} (has : ∀ i j, R i j → ¬ R j i) : ∀ {l m : List Nat}, l.Perm m → l.Pairwise R → m.Pairwise R → l = m
  | [], m, hp, _, _ => (List.nil_perm.1 hp).symm
  | a :: l, [], hp, _, _ => by simp at hp
  | a :: l, b :: m, hp, hl, hm => by
    obtain ⟨hl1, hl2⟩ := List.pairwise_cons.1 hl
    obtain ⟨hm1, hm2⟩ := List.pairwise_cons.1 hm
    have hab : a = b := by
      by_cases e : a = b
      · exact e
      · exfalso
        have h1 : a ∈ b :: m := hp.mem_iff.1 (by simp)
        have h2 : b ∈ a :: l := hp.mem_iff.2 (by simp)
        rcases List.mem_cons.1 h1 with h | h
        · exact e h
        · rcases List.mem_cons.1 h2 with h' | h'
          · exact e h'.symm
          · exact has _ _ (hl1 b h') (hm1 a h)
    subst hab
    rw [sorted_unique has ((List.perm_cons a).1 hp) hl2 hm2]
end Go.Proofs.Ytkdhhafoohnlnaa
