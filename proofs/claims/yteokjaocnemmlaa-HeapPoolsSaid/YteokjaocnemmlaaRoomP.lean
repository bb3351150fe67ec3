/-
  Plain laws of the tree of rooms: a list of rooms, set and searched; no program in sight.
-/
import Derived.Test.YteokjaocnemmlaaMem
namespace Go.Proofs.Yteokjaocnemmlaa

/-- The tree of greatest rooms: each inner node but perhaps one is the greater of its two. -/
def Tree (x : Nat) (f : Nat → Int) : Prop := ∀ k, 1 ≤ k → k < 256 → k ≠ x → f k = max (f (2 * k)) (f (2 * k + 1))
def clamp (r : Int) : Int := min (max r (-1)) 512

structure MapF (L : List Int) (f : Nat → Int) : Prop where
  pages : f 512 = L.length
  le : L.length ≤ 256
  tree : Tree 0 f
  leaf : ∀ j, j < 256 → f (256 + j) = L.getD j (-1)
  rng : ∀ x, x ∈ L → -1 ≤ x ∧ x ≤ 512

def IsMap (w : World) (b : Nat) (L : List Int) : Prop := ∃ f, w.heap[b]? = some (ints .i64 97 513 f) ∧ MapF L f

theorem IsMap.chg {S : List Nat} {w w' : World} {b : Nat} {L : List Int} (h : IsMap w b L) (hc : Chg S w w') (hb : b ∉ S) : IsMap w' b L := by
  obtain ⟨f, hf, hm⟩ := h
  exact ⟨f, hc.heap hf hb, hm⟩
theorem IsMap.lt {w : World} {b : Nat} {L : List Int} (h : IsMap w b L) : b < w.heap.size := by
  obtain ⟨f, hf, _⟩ := h
  exact lt_of_heap hf

theorem getD_lt {L : List Int} {j : Nat} (h : j < L.length) (d : Int) : L.getD j d = L[j] := by simp [h]
theorem getD_ge {L : List Int} {j : Nat} (h : L.length ≤ j) (d : Int) : L.getD j d = d := by simp [h]

/-- What the greatest room of a part is. -/
theorem tree_le {f : Nat → Int} (hT : Tree 0 f) (e : Nat) : ∀ i, 256 ≤ i * 2 ^ e → (i + 1) * 2 ^ e ≤ 512 → ∀ l, i * 2 ^ e ≤ l → l < (i + 1) * 2 ^ e → f l ≤ f i := by
  induction e with
  | zero =>
    intro i _ _ l h1 h2
    have : l = i := by simp at h1 h2; omega
    subst this; exact Int.le_refl _
  | succ e ih =>
    intro i h1 h2 l h3 h4
    have p0 : 0 < 2 ^ e := Nat.pow_pos (by omega)
    rw [Nat.pow_succ] at h1 h2 h3 h4
    have ia := ih (2 * i)
    have ib := ih (2 * i + 1)
    have e1 : i * (2 ^ e * 2) = 2 * (i * 2 ^ e) := by rw [← Nat.mul_assoc]; omega
    have e2 : (i + 1) * (2 ^ e * 2) = 2 * (i * 2 ^ e) + 2 * 2 ^ e := by rw [← Nat.mul_assoc, Nat.add_mul]; omega
    have e3 : 2 * i * 2 ^ e = 2 * (i * 2 ^ e) := by rw [Nat.mul_assoc]
    have e4 : (2 * i + 1) * 2 ^ e = 2 * (i * 2 ^ e) + 2 ^ e := by rw [Nat.add_mul, Nat.mul_assoc]; omega
    have e5 : (2 * i + 1 + 1) * 2 ^ e = 2 * (i * 2 ^ e) + 2 * 2 ^ e := by rw [Nat.add_mul, Nat.add_mul, Nat.mul_assoc]; omega
    rw [e1] at h1 h3
    rw [e2] at h2 h4
    rw [e3, e4] at ia
    rw [e4, e5] at ib
    have hi1 : 1 ≤ i := by 
      rcases Nat.eq_zero_or_pos i with h | h
      · subst h; simp at h1
      · exact h
    have hi2 : i < 256 := by
      rcases Nat.lt_or_ge i 256 with h | h
      · exact h
      · have := Nat.mul_le_mul h p0; omega
    have hk := hT i hi1 hi2 (by omega)
    by_cases hl : l < 2 * (i * 2 ^ e) + 2 ^ e
    · have := ia (by omega) (by omega) l (by omega) hl
      omega
    · have := ib (by omega) (by omega) l (by omega) (by omega)
      omega

def setCode (L : List Int) (page : Int) : Int := if page < 0 ∨ 256 ≤ page then 1 else if (L.length : Int) < page then 3 else 0
def setL (L : List Int) (page : Nat) (room : Int) : List Int := if page = L.length then L ++ [clamp room] else L.set page (clamp room)
def setNew (L : List Int) (page room : Int) : List Int := if setCode L page = 0 then setL L page.toNat room else L

theorem clamp_rng (r : Int) : -1 ≤ clamp r ∧ clamp r ≤ 512 := by unfold clamp; omega
theorem setL_length (L : List Int) (page : Nat) (room : Int) (h : page ≤ L.length) : (setL L page room).length = max L.length (page + 1) := by
  unfold setL
  split
  · simp; omega
  · simp; omega
theorem setL_getD (L : List Int) (page : Nat) (room : Int) (h : page ≤ L.length) (j : Nat) (d : Int) : (setL L page room).getD j d = if j = page then clamp room else L.getD j d := by
  unfold setL
  by_cases hp : page = L.length
  · rw [if_pos hp]
    by_cases hj : j = page
    · subst hj; subst hp; simp
    · rw [if_neg hj]
      by_cases hl : j < L.length
      · simp [List.getElem?_append, hl]
      · have : L.length + 1 ≤ j := by omega
        rw [getD_ge (by simp; omega), getD_ge (by omega)]
  · rw [if_neg hp]
    by_cases hj : j = page
    · subst hj; simp; rw [List.getElem?_set_self (by omega)]; rfl
    · rw [if_neg hj]
      simp [Ne.symm hj]
theorem setL_mem (L : List Int) (page : Nat) (room : Int) (x : Int) (hx : x ∈ setL L page room) : x ∈ L ∨ x = clamp room := by
  unfold setL at hx
  split at hx
  · simp at hx; exact hx
  · exact List.mem_or_eq_of_mem_set hx

theorem MapF.set {L : List Int} {f f' : Nat → Int} {page : Nat} {room : Int} (h : MapF L f) (h0 : page ≤ L.length) (h1 : page < 256) (hp : f' 512 = max (L.length : Int) (page + 1)) (hT : Tree 0 f')
    (hl : ∀ j, j < 256 → f' (256 + j) = if j = page then clamp room else f (256 + j)) : MapF (setL L page room) f' := by
  have hle := h.le
  refine ⟨?_, ?_, hT, ?_, ?_⟩
  · rw [hp, setL_length _ _ _ h0]; omega
  · rw [setL_length _ _ _ h0]; omega
  · intro j hj
    rw [hl j hj, setL_getD _ _ _ h0]
    split
    · rfl
    · exact h.leaf j hj
  · intro x hx
    rcases setL_mem _ _ _ _ hx with h2 | h2
    · exact h.rng x h2
    · subst h2; exact clamp_rng room

def newf (k : Nat) : Nat → Int := fun i => if i < k then -1 else 0
theorem MapF.new : MapF [] (newf 512) := by
  refine ⟨rfl, by simp, ?_, ?_, by simp⟩
  · intro k h1 h2 _
    simp only [newf]
    rw [if_pos (by omega), if_pos (by omega), if_pos (by omega)]; rfl
  · intro j hj
    simp only [newf]
    rw [if_pos (by omega)]; rfl
theorem IsMap.new (w : World) : IsMap (w.alloc (ints .i64 97 513 (newf 512))) w.heap.size [] := ⟨_, heap_alloc_new w _, MapF.new⟩

def findAt (L : List Int) (need : Int) : Option Nat := L.findIdx? fun x => decide (max need 0 ≤ x)
def findOk (L : List Int) (need : Int) : Bool := (findAt L need).isSome
def findPos (L : List Int) (need : Int) : Nat := (findAt L need).getD 0

theorem findAt_none {L : List Int} {f : Nat → Int} {need : Int} (h : MapF L f) (h1 : f 1 < max need 0) : findAt L need = none := by
  unfold findAt
  rw [List.findIdx?_eq_none_iff]
  intro x hx
  obtain ⟨j, hj, rfl⟩ := List.mem_iff_getElem.1 hx
  have hle := h.le
  have := tree_le h.tree 8 1 (by omega) (by omega) (256 + j) (by omega) (by omega)
  rw [h.leaf j (by omega), getD_lt hj] at this
  simp; omega
theorem findAt_some {L : List Int} {f : Nat → Int} {need : Int} {j : Nat} (h : MapF L f) (hj : j < 256) (h1 : max need 0 ≤ f (256 + j)) (h2 : ∀ l, 256 ≤ l → l < 256 + j → f l < max need 0) : findAt L need = some j := by
  unfold findAt
  have hle := h.le
  rw [h.leaf j hj] at h1
  have hlt : j < L.length := by
    rcases Nat.lt_or_ge j L.length with h3 | h3
    · exact h3
    · rw [getD_ge h3] at h1; omega
  rw [getD_lt hlt] at h1
  rw [List.findIdx?_eq_some_iff_getElem]
  refine ⟨hlt, by simp; omega, fun k hk => ?_⟩
  have := h2 (256 + k) (by omega) (by omega)
  rw [h.leaf k (by omega), getD_lt (by omega)] at this
  simp; omega

def getAt (L : List Int) (page : Int) : Int := if 0 ≤ page ∧ page < L.length then L.getD page.toNat (-1) else -1

theorem getAt_of {L : List Int} {f : Nat → Int} (h : MapF L f) (n : Nat) (h1 : n < 256) : f (256 + n) = getAt L n := by
  rw [h.leaf n h1]
  unfold getAt
  split
  · simp
  · rw [getD_ge (by omega)]
theorem getAt_out {L : List Int} {f : Nat → Int} (h : MapF L f) {page : Int} (h1 : page < 0 ∨ 256 ≤ page) : getAt L page = -1 := by
  have := h.le
  unfold getAt
  rw [if_neg (by omega)]

end Go.Proofs.Yteokjaocnemmlaa
