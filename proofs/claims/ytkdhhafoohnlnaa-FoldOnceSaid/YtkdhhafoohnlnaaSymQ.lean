/-
  The merge, plain: the search, and what it parts.
-/
import Derived.Test.YtkdhhafoohnlnaaOrdP
namespace Go.Proofs.Ytkdhhafoohnlnaa

/-- A search in [s0, r0): it has come to [lo, hi]. -/
structure Srch (f : Nat → Bool) (s0 r0 lo hi : Nat) : Prop where
  ge : s0 ≤ lo
  le : lo ≤ hi
  top : hi ≤ r0
  yes : ∀ q, s0 ≤ q → q < lo → f q = true
  no : ∀ q, hi ≤ q → q < r0 → f q = false
def Mono (f : Nat → Bool) (s0 r0 : Nat) : Prop := ∀ q h, s0 ≤ q → q < h → h < r0 → f h = true → f q = true
theorem Srch.start {f : Nat → Bool} {s0 r0 : Nat} (h : s0 ≤ r0) : Srch f s0 r0 s0 r0 :=
  ⟨Nat.le_refl _, h, Nat.le_refl _, by intro q h1 h2; omega, by intro q h1 h2; omega⟩
theorem Srch.up {f : Nat → Bool} {s0 r0 lo hi h : Nat} (hs : Srch f s0 r0 lo hi) (hm : Mono f s0 r0) (h1 : lo ≤ h) (h2 : h < hi) (hf : f h = true) : Srch f s0 r0 (h + 1) hi := by
  refine ⟨by have := hs.ge; omega, by omega, hs.top, fun q hq hq2 => ?_, hs.no⟩
  by_cases e : q = h
  · rw [e]; exact hf
  · exact hm q h hq (by omega) (by have := hs.top; omega) hf
theorem Srch.down {f : Nat → Bool} {s0 r0 lo hi h : Nat} (hs : Srch f s0 r0 lo hi) (hm : Mono f s0 r0) (h1 : lo ≤ h) (h2 : h < hi) (hf : f h = false) : Srch f s0 r0 lo h := by
  refine ⟨hs.ge, h1, by have := hs.top; omega, hs.yes, fun q hq hq2 => ?_⟩
  by_cases e : q = h
  · rw [e]; exact hf
  · cases hfq : f q with
    | false => rfl
    | true => rw [hm h q (by have := hs.ge; omega) (by omega) hq2 hfq] at hf; cases hf

section
variable {K : List (List Vl)} {d : List Bool} {c : Nat}
/-- Two stretches in order, one behind the other; those of the first have the smaller numbers. -/
structure Mrg (K : List (List Vl)) (d : List Bool) (X : Nat → Nat) (a m b : Nat) : Prop where
  sl : ∀ i j, a ≤ i → i < j → j < m → TT K d (X i) (X j)
  sr : ∀ i j, m ≤ i → i < j → j < b → TT K d (X i) (X j)
  cr : ∀ i j, a ≤ i → i < m → m ≤ j → j < b → X i < X j
  bd : ∀ i, a ≤ i → i < b → X i < K.length
theorem Mrg.less {X : Nat → Nat} {a m b : Nat} (h : Mrg K d X a m b) {i j : Nat} (h1 : a ≤ i) (h2 : i < m) (h3 : m ≤ j) (h4 : j < b) : ltI K d (X j) (X i) = true ↔ TT K d (X j) (X i) := ((TT.cross (h.cr i j h1 h2 h3 h4)).1).symm
theorem Mrg.not_less {X : Nat → Nat} {a m b : Nat} (h : Mrg K d X a m b) {i j : Nat} (h1 : a ≤ i) (h2 : i < m) (h3 : m ≤ j) (h4 : j < b) : ltI K d (X j) (X i) = false ↔ TT K d (X i) (X j) := by
  constructor
  · exact (TT.cross (h.cr i j h1 h2 h3 h4)).2
  · intro ht
    cases hl : ltI K d (X j) (X i) with
    | false => rfl
    | true => exact absurd ((h.less h1 h2 h3 h4).1 hl) ht.asymm
theorem Mrg.mono1 {X : Nat → Nat} {a m b : Nat} (he : Even K c) (h : Mrg K d X a m b) (ham : a < m) (hmb : m ≤ b) : Mono (fun q => ltI K d (X q) (X a)) m b := by
  intro q r h1 h2 h3 h4
  have hab : a < b := by omega
  have t1 := (h.less (Nat.le_refl a) ham (by omega) h3).1 h4
  exact (h.less (Nat.le_refl a) ham h1 (by omega)).2 (TT.trans he (h.bd q (by omega) (by omega)) (h.bd r (by omega) h3) (h.bd a (Nat.le_refl a) hab) (h.sr q r h1 h2 h3) t1)
theorem Mrg.mono2 {X : Nat → Nat} {a m b : Nat} (he : Even K c) (h : Mrg K d X a m b) (hmb : m < b) : Mono (fun q => !ltI K d (X m) (X q)) a m := by
  intro q r h1 h2 h3 h4
  simp only [Bool.not_eq_true'] at h4 ⊢
  have t1 := (h.not_less (by omega) h3 (Nat.le_refl m) hmb).1 h4
  exact (h.not_less h1 (by omega) (Nat.le_refl m) hmb).2 (TT.trans he (h.bd q h1 (by omega)) (h.bd r (by omega) (by omega)) (h.bd m (by omega) hmb) (h.sl q r h1 h2 h3) t1)
theorem Mrg.mono3 {X : Nat → Nat} {a m b p s0 r0 : Nat} (he : Even K c) (h : Mrg K d X a m b) (h0 : a ≤ s0) (h1 : r0 ≤ m) (h2 : ∀ q, s0 ≤ q → q < r0 → m ≤ p - q ∧ p - q < b ∧ q ≤ p) : Mono (fun q => !ltI K d (X (p - q)) (X q)) s0 r0 := by
  intro q r k1 k2 k3 k4
  simp only [Bool.not_eq_true'] at k4 ⊢
  obtain ⟨a1, a2, a3⟩ := h2 q k1 (by omega)
  obtain ⟨b1, b2, b3⟩ := h2 r (by omega) k3
  have t1 := (h.not_less (by omega) (by omega) b1 b2).1 k4
  have t2 := h.sl q r (by omega) k2 (by omega)
  have t3 := h.sr (p - r) (p - q) b1 (by omega) a2
  have u := TT.trans he (h.bd q (by omega) (by omega)) (h.bd r (by omega) (by omega)) (h.bd (p - r) (by omega) b2) t2 t1
  exact (h.not_less (by omega) (by omega) a1 a2).2 (TT.trans he (h.bd q (by omega) (by omega)) (h.bd (p - r) (by omega) b2) (h.bd (p - q) (by omega) a2) u t3)
/-- Where the search of the merge is laid. -/
def Range3 (a m b mid s0 r0 : Nat) : Prop := (mid < m ∧ s0 = mid + m - b ∧ r0 = mid) ∨ (m ≤ mid ∧ s0 = a ∧ r0 = m)
theorem Range3.facts {a m b mid s0 r0 : Nat} (hr : Range3 a m b mid s0 r0) (hm : mid = (a + b) / 2) (h1 : a + 2 ≤ m) (h2 : m + 2 ≤ b) : a ≤ s0 ∧ s0 ≤ r0 ∧ r0 ≤ m ∧ r0 ≤ mid ∧ a < mid ∧ mid < b ∧ ∀ q, s0 ≤ q → q < r0 → m ≤ mid + m - 1 - q ∧ mid + m - 1 - q < b ∧ q ≤ mid + m - 1 := by
  rcases hr with ⟨k1, k2, k3⟩ | ⟨k1, k2, k3⟩
  · refine ⟨by omega, by omega, by omega, by omega, by omega, by omega, fun q hq1 hq2 => by omega⟩
  · refine ⟨by omega, by omega, by omega, by omega, by omega, by omega, fun q hq1 hq2 => by omega⟩
theorem Mrg.parts {X : Nat → Nat} {a m b mid s0 r0 st e : Nat} (he : Even K c) (h : Mrg K d X a m b) (h1 : a + 2 ≤ m) (h2 : m + 2 ≤ b) (hm : mid = (a + b) / 2) (hr : Range3 a m b mid s0 r0) (hs : Srch (fun q => !ltI K d (X (mid + m - 1 - q)) (X q)) s0 r0 st st) (hee : e = mid + m - st) :
    a ≤ st ∧ st ≤ m ∧ st ≤ mid ∧ m ≤ e ∧ e ≤ b ∧ mid ≤ e ∧ ∀ i j, ((a ≤ i ∧ i < st) ∨ (m ≤ i ∧ i < e)) → ((st ≤ j ∧ j < m) ∨ (e ≤ j ∧ j < b)) → TT K d (X i) (X j) := by
  obtain ⟨f1, f2, f3, f4, f5, f6, f7⟩ := hr.facts hm h1 h2
  have g1 := hs.ge
  have g2 := hs.top
  have hst : a ≤ st ∧ st ≤ m ∧ st ≤ mid ∧ m ≤ e ∧ e ≤ b ∧ mid ≤ e := by
    rcases hr with ⟨k1, k2, k3⟩ | ⟨k1, k2, k3⟩ <;> omega
  obtain ⟨a1, a2, a3, a4, a5, a6⟩ := hst
  refine ⟨a1, a2, a3, a4, a5, a6, ?_⟩
  intro i j hi hj
  rcases hi with ⟨i1, i2⟩ | ⟨i1, i2⟩ <;> rcases hj with ⟨j1, j2⟩ | ⟨j1, j2⟩
  · exact h.sl i j i1 (by omega) j2
  · have hlt : s0 < st := by rcases hr with ⟨k1, k2, k3⟩ | ⟨k1, k2, k3⟩ <;> omega
    have hy := hs.yes (st - 1) (by omega) (by omega)
    simp only [Bool.not_eq_true'] at hy
    rw [show mid + m - 1 - (st - 1) = e by omega] at hy
    have t1 := (h.not_less (by omega) (by omega) a4 (by omega)).1 hy
    have t2 : TT K d (X i) (X e) := by
      by_cases q : i = st - 1
      · rw [q]; exact t1
      · exact TT.trans he (h.bd i i1 (by omega)) (h.bd (st - 1) (by omega) (by omega)) (h.bd e (by omega) (by omega)) (h.sl i (st - 1) i1 (by omega) (by omega)) t1
    by_cases q : j = e
    · rw [q]; exact t2
    · exact TT.trans he (h.bd i i1 (by omega)) (h.bd e (by omega) (by omega)) (h.bd j (by omega) j2) t2 (h.sr e j a4 (by omega) j2)
  · have hlt : st < r0 := by rcases hr with ⟨k1, k2, k3⟩ | ⟨k1, k2, k3⟩ <;> omega
    have hn := hs.no st (Nat.le_refl _) hlt
    simp only [Bool.not_eq_false'] at hn
    rw [show mid + m - 1 - st = e - 1 by omega] at hn
    have t1 := (h.less a1 (by omega) (by omega) (by omega)).1 hn
    have t2 : TT K d (X i) (X st) := by
      by_cases q : i = e - 1
      · rw [q]; exact t1
      · exact TT.trans he (h.bd i (by omega) (by omega)) (h.bd (e - 1) (by omega) (by omega)) (h.bd st (by omega) (by omega)) (h.sr i (e - 1) i1 (by omega) (by omega)) t1
    by_cases q : j = st
    · rw [q]; exact t2
    · exact TT.trans he (h.bd i (by omega) (by omega)) (h.bd st (by omega) (by omega)) (h.bd j (by omega) (by omega)) t2 (h.sl st j a1 (by omega) j2)
  · exact h.sr i j i1 (by omega) j2
end
end Go.Proofs.Ytkdhhafoohnlnaa
