/-
  Insertion, plain.
-/
import Derived.Test.YtkdhhafoohnlnaaOrdP
namespace Go.Proofs.Ytkdhhafoohnlnaa

theorem get_mid {α : Type} (L R : List α) (x : α) : (L ++ x :: R)[L.length]? = some x := by simp
theorem set_mid {α : Type} (L R : List α) (x y : α) : (L ++ x :: R).set L.length y = L ++ y :: R := by
  induction L with
  | nil => rfl
  | cons z L ih => simp [ih]
/-- Two that stand side by side change places. -/
theorem swap_mid {α : Type} (L R : List α) (x e : α) : ((L ++ x :: e :: R).set (L.length + 1) x).set L.length e = L ++ e :: x :: R := by
  have h1 := set_mid (L ++ [x]) R e x
  simp only [List.append_assoc, List.cons_append, List.nil_append, List.length_append, List.length_cons, List.length_nil] at h1
  rw [Nat.zero_add] at h1
  rw [h1]
  exact set_mid L (x :: R) x e

section
variable {K : List (List Vl)} {d : List Bool} {c : Nat}
/-- One that goes down a row in order, till none ahead of it is behind it. -/
def Dn (K : List (List Vl)) (d : List Bool) (A p Z : List Nat) (e j : Nat) (xs : List Nat) : Prop :=
  ∃ p1 p2, p = p1 ++ p2 ∧ j = A.length + p1.length ∧ xs = A ++ (p1 ++ e :: p2) ++ Z ∧ ∀ y, y ∈ p2 → TT K d e y
theorem Dn.start (A p Z : List Nat) (e : Nat) : Dn K d A p Z e (A.length + p.length) (A ++ (p ++ [e]) ++ Z) :=
  ⟨p, [], by simp, rfl, rfl, by simp⟩
theorem Dn.get {A p Z xs : List Nat} {e j : Nat} (h : Dn K d A p Z e j xs) (hj : A.length < j) : ∃ x, xs[j]? = some e ∧ xs[j - 1]? = some x ∧ x ∈ p ∧ ((TT K d e x → Dn K d A p Z e (j - 1) ((xs.set j x).set (j - 1) e))) := by
  obtain ⟨p1, p2, rfl, rfl, rfl, h4⟩ := h
  have hne : p1 ≠ [] := by intro e; subst e; simp at hj
  obtain ⟨q, x, rfl⟩ : ∃ q x, p1 = q ++ [x] := ⟨p1.dropLast, p1.getLast hne, (List.dropLast_concat_getLast hne).symm⟩
  refine ⟨x, ?_, ?_, by simp, ?_⟩
  · simp
  · simp only [List.length_append, List.length_cons, List.length_nil]
    rw [show A.length + (q.length + (0 + 1)) - 1 = A.length + q.length by omega]
    simp
  · intro ht
    refine ⟨q, x :: p2, by simp, by simp only [List.length_append, List.length_cons, List.length_nil]; omega, ?_, ?_⟩
    · have := swap_mid (A ++ q) (p2 ++ Z) x e
      simp only [List.length_append, List.length_cons, List.length_nil] at this ⊢
      rw [show A.length + (q.length + (0 + 1)) - 1 = A.length + q.length by omega, show A.length + (q.length + (0 + 1)) = A.length + q.length + 1 by omega]
      simpa using this
    · intro y hy
      rcases List.mem_cons.1 hy with rfl | hy
      · exact ht
      · exact h4 y hy
/-- Down to where it belongs: in order. -/
theorem Dn.done (he : Even K c) {A p Z xs : List Nat} {e j : Nat} (h : Dn K d A p Z e j xs) (hp : p.Pairwise (TT K d)) (hin : ∀ x, x ∈ p → x < K.length) (hek : e < K.length) (hstop : j = A.length ∨ ∃ x, xs[j - 1]? = some x ∧ A.length < j ∧ TT K d x e) :
    ∃ p', p'.Perm (p ++ [e]) ∧ p'.Pairwise (TT K d) ∧ xs = A ++ p' ++ Z := by
  obtain ⟨p1, p2, rfl, rfl, rfl, h4⟩ := h
  refine ⟨p1 ++ e :: p2, ?_, ?_, rfl⟩
  · rw [List.append_assoc]
    exact List.Perm.append_left p1 (List.perm_append_singleton e p2).symm
  · rw [List.pairwise_append] at hp ⊢
    obtain ⟨h1, h2, h3⟩ := hp
    refine ⟨h1, List.pairwise_cons.2 ⟨h4, h2⟩, ?_⟩
    have hall : ∀ y, y ∈ p1 → TT K d y e := by
      intro y hy
      rcases hstop with h | ⟨x, hx, hlt, ht⟩
      · have : p1 = [] := List.length_eq_zero_iff.1 (by omega)
        subst this; cases hy
      · have hne : p1 ≠ [] := by intro e; subst e; simp at hlt
        obtain ⟨q, z, rfl⟩ : ∃ q x, p1 = q ++ [x] := ⟨p1.dropLast, p1.getLast hne, (List.dropLast_concat_getLast hne).symm⟩
        have hz : z = x := by
          have := get_mid (A ++ q) (e :: p2 ++ Z) z
          simp only [List.length_append, List.length_cons, List.length_nil] at this hx
          rw [show A.length + (q.length + (0 + 1)) - 1 = A.length + q.length by omega] at hx
          have e2 : A ++ (q ++ [z] ++ e :: p2) ++ Z = A ++ q ++ z :: (e :: p2 ++ Z) := by simp
          rw [e2, this] at hx
          injection hx
        subst hz
        rcases List.mem_append.1 hy with hy | hy
        · rw [List.pairwise_append] at h1
          exact TT.trans he (hin y (by simp [hy])) (hin z (by simp)) hek (h1.2.2 y hy z (by simp)) ht
        · simp at hy; subst hy; exact ht
    intro a ha b hb
    rcases List.mem_cons.1 hb with rfl | hb
    · exact hall a ha
    · exact h3 a ha b hb
/-- The first k of S in order. -/
def Ins (K : List (List Vl)) (d : List Bool) (A S Z : List Nat) (k : Nat) (xs : List Nat) : Prop :=
  ∃ p, p.Perm (S.take k) ∧ p.Pairwise (TT K d) ∧ xs = A ++ p ++ (S.drop k ++ Z)
theorem Ins.start (A S Z : List Nat) : Ins K d A S Z 1 (A ++ S ++ Z) := by
  refine ⟨S.take 1, List.Perm.refl _, ?_, by simp only [List.append_assoc]; rw [← List.append_assoc (S.take 1), List.take_append_drop]⟩
  cases S with
  | nil => simp
  | cons x S => simp
theorem Ins.next (he : Even K c) {A S Z xs : List Nat} {k : Nat} (h : Ins K d A S Z k xs) (hk : k < S.length) (hS : S.Pairwise (· < ·)) (hin : ∀ x, x ∈ S → x < K.length) :
    ∃ p e, p.length = k ∧ S[k]? = some e ∧ Dn K d A p (S.drop (k + 1) ++ Z) e (A.length + k) xs ∧ e < K.length ∧ (∀ x, x ∈ p → x < K.length ∧ x < e) ∧
      ∀ j ys, Dn K d A p (S.drop (k + 1) ++ Z) e j ys → (j = A.length ∨ ∃ x, ys[j - 1]? = some x ∧ A.length < j ∧ TT K d x e) → Ins K d A S Z (k + 1) ys := by
  obtain ⟨p, hp, hs, rfl⟩ := h
  have hpl : p.length = k := by rw [hp.length_eq, List.length_take]; omega
  have hmem : ∀ x, x ∈ p → x < K.length ∧ x < S[k] := by
    intro x hx
    have h1 := hp.mem_iff.1 hx
    refine ⟨hin x (List.mem_of_mem_take h1), ?_⟩
    obtain ⟨i, hi, rfl⟩ := List.mem_iff_getElem.1 h1
    rw [List.length_take] at hi
    rw [List.getElem_take]
    exact (List.pairwise_iff_getElem.1 hS) i k (by omega) hk (by omega)
  have hek : S[k] < K.length := hin _ (List.getElem_mem hk)
  refine ⟨p, S[k], hpl, List.getElem?_eq_getElem hk, ?_, hek, hmem, ?_⟩
  · have := Dn.start (K := K) (d := d) A p (S.drop (k + 1) ++ Z) S[k]
    rw [hpl] at this
    have e : S.drop k = S[k] :: S.drop (k + 1) := List.drop_eq_getElem_cons hk
    rw [e]
    simpa only [List.append_assoc, List.cons_append, List.nil_append] using this
  · intro j ys hd hstop
    obtain ⟨p', h1, h2, h3⟩ := hd.done he hs (fun x hx => (hmem x hx).1) hek hstop
    refine ⟨p', ?_, h2, h3⟩
    rw [List.take_succ_eq_append_getElem hk]
    exact h1.trans (hp.append_right _)
theorem Ins.done {A S Z xs : List Nat} {k : Nat} (h : Ins K d A S Z k xs) (hk : S.length ≤ k) : ∃ p, p.Perm S ∧ p.Pairwise (TT K d) ∧ xs = A ++ p ++ Z := by
  obtain ⟨p, h1, h2, h3⟩ := h
  rw [List.take_of_length_le hk] at h1
  rw [List.drop_of_length_le hk] at h3
  exact ⟨p, h1, h2, by simpa using h3⟩
end
end Go.Proofs.Ytkdhhafoohnlnaa
