/-
  Rows of values in memory; their order, plain.
-/
import Derived.Test.YtkdhhafoohnlnaaCell3
namespace Go.Proofs.Ytkdhhafoohnlnaa
open Go.RowKit

/-- A row of values: a slice, nil or not, reads as l. -/
def RowAt (w : World) (v : Value) (l : List Vl) : Prop :=
  ∃ A c, v = .slice A l.length c ∧ ∀ j x, l[j]? = some x → ∃ b off, A = some ⟨b, off, none⟩ ∧ w.cell? ⟨b, off + j * 4, none⟩ = some (.int .u8 x.k) ∧ w.cell? ⟨b, off + j * 4 + 1, none⟩ = some (.int .i64 x.i) ∧ w.cell? ⟨b, off + j * 4 + 2, none⟩ = some (.string x.s) ∧ w.cell? ⟨b, off + j * 4 + 3, none⟩ = some (.bool x.b)
theorem RowAt.chg {w w' : World} {v : Value} {l : List Vl} (h : RowAt w v l) (hC : Chg [] w w') : RowAt w' v l := by
  obtain ⟨A, c, rfl, hc⟩ := h
  refine ⟨A, c, rfl, fun j x hx => ?_⟩
  obtain ⟨b, off, ha, h0, h1, h2, h3⟩ := hc j x hx
  exact ⟨b, off, ha, hC.cell h0 (by simp), hC.cell h1 (by simp), hC.cell h2 (by simp), hC.cell h3 (by simp)⟩
/-- A slice of truth values. -/
def BoolAt (w : World) (v : Value) (l : List Bool) : Prop :=
  ∃ A c, v = .slice A l.length c ∧ ∀ j x, l[j]? = some x → ∃ b off, A = some ⟨b, off, none⟩ ∧ w.cell? ⟨b, off + j, none⟩ = some (.bool x)
theorem BoolAt.chg {w w' : World} {v : Value} {l : List Bool} (h : BoolAt w v l) (hC : Chg [] w w') : BoolAt w' v l := by
  obtain ⟨A, c, rfl, hc⟩ := h
  refine ⟨A, c, rfl, fun j x hx => ?_⟩
  obtain ⟨b, off, ha, h0⟩ := hc j x hx
  exact ⟨b, off, ha, hC.cell h0 (by simp)⟩
/-- Rows. -/
def KeysAt (w : World) (v : Value) (K : List (List Vl)) : Prop :=
  ∃ A c, ∃ vs : Nat → Value, v = .slice A K.length c ∧ ∀ j l, K[j]? = some l → ∃ b off, A = some ⟨b, off, none⟩ ∧ w.cell? ⟨b, off + j, none⟩ = some (vs j) ∧ RowAt w (vs j) l
theorem KeysAt.chg {w w' : World} {v : Value} {K : List (List Vl)} (h : KeysAt w v K) (hC : Chg [] w w') : KeysAt w' v K := by
  obtain ⟨A, c, vs, rfl, hc⟩ := h
  refine ⟨A, c, vs, rfl, fun j x hx => ?_⟩
  obtain ⟨b, off, ha, h0, h1⟩ := hc j x hx
  exact ⟨b, off, ha, hC.cell h0 (by simp), h1.chg hC⟩

/-- Is a row ahead? -/
def lessK : List Vl → List Vl → List Bool → Bool
  | x :: a, y :: b, d => if sameV x y then lessK a b d.tail else (lessV x y != d.headD false)
  | _, _, _ => false
def sameK : List Vl → List Vl → Bool
  | [], [] => true
  | x :: a, y :: b => sameV x y && sameK a b
  | _, _ => false
theorem lessK_step {a b : List Vl} {d : List Bool} {k : Nat} {x y : Vl} (ha : a[k]? = some x) (hb : b[k]? = some y) : lessK (a.drop k) (b.drop k) (d.drop k) = if sameV x y then lessK (a.drop (k + 1)) (b.drop (k + 1)) (d.drop (k + 1)) else (lessV x y != (d[k]?).getD false) := by
  have la : k < a.length := by rcases Nat.lt_or_ge k a.length with h | h <;> simp_all
  have lb : k < b.length := by rcases Nat.lt_or_ge k b.length with h | h <;> simp_all
  rw [List.drop_eq_getElem_cons la, List.drop_eq_getElem_cons lb]
  rw [List.getElem?_eq_getElem la] at ha
  rw [List.getElem?_eq_getElem lb] at hb
  injection ha with ha
  injection hb with hb
  rw [ha, hb]
  show (if sameV x y then lessK _ _ (d.drop k).tail else (lessV x y != (d.drop k).headD false)) = _
  rw [List.tail_drop, List.headD_eq_head?_getD, List.head?_drop]
theorem lessK_done {a b : List Vl} {d : List Bool} {k : Nat} (h : a.length ≤ k ∨ b.length ≤ k) : lessK (a.drop k) (b.drop k) (d.drop k) = false := by
  rcases h with h | h
  · rw [List.drop_of_length_le h]; rfl
  · rw [List.drop_of_length_le h]; cases a.drop k <;> rfl
theorem sameK_step {a b : List Vl} {k : Nat} {x y : Vl} (ha : a[k]? = some x) (hb : b[k]? = some y) : sameK (a.drop k) (b.drop k) = (sameV x y && sameK (a.drop (k + 1)) (b.drop (k + 1))) := by
  have la : k < a.length := by rcases Nat.lt_or_ge k a.length with h | h <;> simp_all
  have lb : k < b.length := by rcases Nat.lt_or_ge k b.length with h | h <;> simp_all
  rw [List.drop_eq_getElem_cons la, List.drop_eq_getElem_cons lb]
  rw [List.getElem?_eq_getElem la] at ha
  rw [List.getElem?_eq_getElem lb] at hb
  injection ha with ha
  injection hb with hb
  rw [ha, hb]
  rfl
theorem sameK_len {a b : List Vl} (h : a.length ≠ b.length) : sameK a b = false := by
  induction a generalizing b with
  | nil => cases b with
    | nil => simp at h
    | cons => rfl
  | cons x a ih => cases b with
    | nil => rfl
    | cons y b => simp only [sameK, ih (by simpa using h), Bool.and_false]
/-- Two rows' keys, one word. -/
theorem sameK_iff {a b : List Vl} : sameK a b = true ↔ a.map vkey = b.map vkey := by
  induction a generalizing b with
  | nil => cases b <;> simp [sameK]
  | cons x a ih => cases b with
    | nil => simp [sameK]
    | cons y b => simp only [sameK, Bool.and_eq_true, List.map_cons, List.cons.injEq, ih, sameV_iff]
end Go.Proofs.Ytkdhhafoohnlnaa
