/-
  Values and their order, plain: a value's key is a list of numbers; keys are ordered as words are.
-/
import Derived.Test.YtkdhhafoohnlnaaMem
namespace Go.Proofs.Ytkdhhafoohnlnaa
open Go.RowKit

/-- Words of numbers, in order. -/
def lexL : List Int → List Int → Bool
  | _, [] => false
  | [], _ :: _ => true
  | a :: x, b :: y => decide (a < b) || (decide (a = b) && lexL x y)
theorem lexL_irrefl : ∀ x, lexL x x = false
  | [] => rfl
  | a :: x => by simp [lexL, lexL_irrefl x]
theorem lexL_asymm : ∀ x y, lexL x y = true → lexL y x = false
  | _, [], h => by simp [lexL] at h
  | [], _ :: _, _ => rfl
  | a :: x, b :: y, h => by
    simp only [lexL, Bool.or_eq_true, Bool.and_eq_true, decide_eq_true_eq] at h
    simp only [lexL, Bool.or_eq_false_iff, Bool.and_eq_false_iff, decide_eq_false_iff_not]
    rcases h with h | ⟨h1, h2⟩
    · exact ⟨by omega, .inl (by omega)⟩
    · exact ⟨by omega, .inr (lexL_asymm x y h2)⟩
theorem lexL_trans : ∀ x y z, lexL x y = true → lexL y z = true → lexL x z = true
  | _, [], _, h, _ => by simp [lexL] at h
  | _, _ :: _, [], _, h => by simp [lexL] at h
  | [], _ :: _, _ :: _, _, _ => rfl
  | a :: x, b :: y, c :: z, h, k => by
    simp only [lexL, Bool.or_eq_true, Bool.and_eq_true, decide_eq_true_eq] at h k ⊢
    rcases h with h | ⟨h1, h2⟩ <;> rcases k with k | ⟨k1, k2⟩
    · exact .inl (by omega)
    · exact .inl (by omega)
    · exact .inl (by omega)
    · exact .inr ⟨by omega, lexL_trans x y z h2 k2⟩
theorem lexL_total : ∀ x y, lexL x y = false → lexL y x = false → x = y
  | [], [], _, _ => rfl
  | [], _ :: _, h, _ => by simp [lexL] at h
  | _ :: _, [], _, h => by simp [lexL] at h
  | a :: x, b :: y, h, k => by
    simp only [lexL, Bool.or_eq_false_iff, Bool.and_eq_false_iff, decide_eq_false_iff_not] at h k
    have hab : a = b := by omega
    subst hab
    rw [lexL_total x y (by rcases h.2 with e | e <;> simp_all) (by rcases k.2 with e | e <;> simp_all)]

def bytesI (s : ByteArray) : List Int := s.toList.map fun c => (c.toNat : Int)
theorem bytesLess_lex : ∀ x y : List UInt8, Op.bytesLess x y = lexL (x.map fun c => (c.toNat : Int)) (y.map fun c => (c.toNat : Int))
  | _, [] => by cases ‹List UInt8› <;> rfl
  | [], _ :: _ => rfl
  | a :: x, b :: y => by
    simp only [Op.bytesLess, lexL, List.map_cons, bytesLess_lex x y]
    congr 1
    · rw [Bool.eq_iff_iff]; simp [UInt8.lt_iff_toNat_lt]
    · congr 1
      rw [Bool.eq_iff_iff]
      simp only [beq_iff_eq, decide_eq_true_eq]
      constructor
      · intro h; rw [h]
      · intro h; exact UInt8.toNat_inj.1 (by omega)
theorem bytesI_inj {x y : ByteArray} (h : bytesI x = bytesI y) : x.toList = y.toList := by
  unfold bytesI at h
  exact List.map_inj_right (fun a b hab => UInt8.toNat_inj.1 (by omega)) |>.1 h

/-- A value. -/
structure Vl where
  k : Nat
  i : Int
  s : ByteArray
  b : Bool
def Vl.val (v : Vl) : Value := .agg #[.int .u8 v.k, .int .i64 v.i, .string v.s, .bool v.b]
def Vl.zero : Vl := ⟨0, 0, ⟨#[]⟩, false⟩
/-- Its key. -/
def vkey (v : Vl) : List Int :=
  if v.k = 3 then [1, if v.b then 1 else 0] else if v.k = 1 then [2, v.i] else if v.k = 2 then 3 :: bytesI v.s else [0]
def lessV (a b : Vl) : Bool := lexL (vkey a) (vkey b)
def sameV (a b : Vl) : Bool := !lessV a b && !lessV b a
def ordV (a b : Vl) : Int := if lessV a b then -1 else if lessV b a then 1 else 0
theorem sameV_iff {a b : Vl} : sameV a b = true ↔ vkey a = vkey b := by
  unfold sameV lessV
  constructor
  · intro h
    simp at h
    exact lexL_total _ _ h.1 h.2
  · intro h
    rw [h, lexL_irrefl]
    rfl
end Go.Proofs.Ytkdhhafoohnlnaa
