/-
  Plain laws of numbers as bytes, the lowest first; no program in sight.
-/
import Derived.Test.YteokjaocnemmlaaMem
import Derived.Laws.Bits64b
namespace Go.Proofs.Yteokjaocnemmlaa

/-- The number of n bytes, the lowest first. -/
def le : (Nat → Int) → Nat → Int
  | _, 0 => 0
  | g, n + 1 => g 0 + 256 * le (fun i => g (i + 1)) n
/-- A number's i-th byte. -/
def byteAt (x : Int) (i : Nat) : Int := (x / 256 ^ i) % 256
def Bytes (g : Nat → Int) (n : Nat) : Prop := ∀ i, i < n → 0 ≤ g i ∧ g i ≤ 255
/-- f, but the n places from a on are g's. -/
def splice (f : Nat → Int) (a n : Nat) (g : Nat → Int) : Nat → Int := fun i => if a ≤ i ∧ i < a + n then g (i - a) else f i

theorem le_congr {g h : Nat → Int} {n : Nat} (e : ∀ i, i < n → g i = h i) : le g n = le h n := by
  induction n generalizing g h with
  | zero => rfl
  | succ n ih => simp only [le]; rw [e 0 (by omega), ih (fun i hi => e (i + 1) (by omega))]
theorem pow256_pos (n : Nat) : (0 : Int) < 256 ^ n := by
  induction n with
  | zero => decide
  | succ n ih => rw [Int.pow_succ]; omega
theorem le_range {g : Nat → Int} {n : Nat} (h : Bytes g n) : 0 ≤ le g n ∧ le g n < 256 ^ n := by
  induction n generalizing g with
  | zero => simp [le]
  | succ n ih =>
    have h1 := ih (g := fun i => g (i + 1)) (fun i hi => h (i + 1) (by omega))
    have h0 := h 0 (by omega)
    simp only [le]
    rw [Int.pow_succ]
    omega
theorem byteAt_range (x : Int) (i : Nat) : 0 ≤ byteAt x i ∧ byteAt x i ≤ 255 := by unfold byteAt; omega
theorem byteAt_succ (x : Int) (i : Nat) : byteAt x (i + 1) = byteAt (x / 256) i := by
  unfold byteAt
  rw [Int.pow_succ, Int.mul_comm, ← Int.ediv_ediv_of_nonneg (by decide)]
theorem le_byteAt (n : Nat) : ∀ x : Int, 0 ≤ x → x < 256 ^ n → le (byteAt x) n = x := by
  induction n with
  | zero => intro x h0 h1; simp at h1; simp only [le]; omega
  | succ n ih =>
    intro x h0 h1
    rw [Int.pow_succ] at h1
    simp only [le]
    have e : (fun i => byteAt x (i + 1)) = byteAt (x / 256) := by funext i; exact byteAt_succ x i
    rw [e, ih (x / 256) (by omega) (by omega)]
    unfold byteAt
    simp
    omega
theorem byteAt_two (x : Int) (i : Nat) : x / 2 ^ (8 * i) % 256 = byteAt x i := by
  unfold byteAt
  rw [Int.pow_mul]
  rfl
theorem le2 (g : Nat → Int) : le g 2 = g 0 + 256 * g 1 := by simp [le]
theorem splice_in {f g : Nat → Int} {a n i : Nat} (h : a ≤ i) (h2 : i < a + n) : splice f a n g i = g (i - a) := by unfold splice; rw [if_pos ⟨h, h2⟩]
theorem splice_out {f g : Nat → Int} {a n i : Nat} (h : i < a ∨ a + n ≤ i) : splice f a n g i = f i := by unfold splice; rw [if_neg (by omega)]
theorem splice_at {f g : Nat → Int} {a n i : Nat} (h : i < n) : splice f a n g (a + i) = g i := by rw [splice_in (by omega) (by omega)]; congr 1; omega
theorem splice_zero (f g : Nat → Int) (a : Nat) : splice f a 0 g = f := by funext i; rw [splice_out (by omega)]
theorem splice_succ (f g : Nat → Int) (a n : Nat) : upd (splice f a n g) (a + n) (g n) = splice f a (n + 1) g := by
  funext i
  unfold upd splice
  by_cases h : i = a + n
  · subst h; rw [if_pos rfl, if_pos (by omega)]; congr 1; omega
  · rw [if_neg h]
    by_cases h2 : a ≤ i ∧ i < a + n
    · rw [if_pos h2, if_pos (by omega)]
    · rw [if_neg h2, if_neg (by omega)]
theorem splice_bytes {f g : Nat → Int} {a n N : Nat} (hf : Bytes f N) (hg : Bytes g n) : Bytes (splice f a n g) N := by
  intro i hi
  unfold splice
  split
  · exact hg _ (by omega)
  · exact hf i hi
/-- 'n << 8 | b'. -/
theorem or_byte (v b : Int) (hv : 0 ≤ v) (hb : 0 ≤ b) (hb2 : b ≤ 255) (hv2 : v < 72057594037927936) : bits .or .u64 (v * 256) b = v * 256 + b := by
  obtain ⟨a, rfl⟩ := Int.eq_ofNat_of_zero_le hv
  obtain ⟨c, rfl⟩ := Int.eq_ofNat_of_zero_le hb
  rw [show (a : Int) * 256 = ((a * 256 : Nat) : Int) by omega, bits_or_u64_nat _ _ (by omega) (by omega)]
  have := Nat.shiftLeft_add_eq_or_of_lt (i := 8) (b := c) (by omega) a
  rw [Nat.shiftLeft_eq] at this
  rw [show (256 : Nat) = 2 ^ 8 by decide, ← this]
  omega

end Go.Proofs.Yteokjaocnemmlaa
