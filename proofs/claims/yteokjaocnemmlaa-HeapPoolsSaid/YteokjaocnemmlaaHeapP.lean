/-
  Plain laws of a heap's pages: which version is where, how many there are, room; no program in sight.
-/
import Derived.Test.YteokjaocnemmlaaHeap8
namespace Go.Proofs.Yteokjaocnemmlaa

/-- The version in a slot. -/
def sget (L : PL) (s : Nat) : Option Tup := (L[s]?).join
/-- .. of a page. -/
def nget (H : List PL) (p s : Nat) : Option Tup := (H[p]?).bind fun L => sget L s

theorem sget_some {L : PL} {s : Nat} {t : Tup} : sget L s = some t ↔ L[s]? = some (some t) := by
  unfold sget
  cases h : L[s]? with
  | none => simp
  | some o => cases o <;> simp
theorem hget_nat (H : List PL) (p s : Nat) : hget H p s = nget H p s := by
  unfold hget pageOf nget
  rw [if_neg (by omega), Int.toNat_natCast]
  have e : (fun L => slotOf L (s : Int)) = fun L => sget L s := by
    funext L
    unfold slotOf sget
    rw [if_neg (by omega), Int.toNat_natCast]
  rw [e]

theorem sget_ins (L : PL) (t : Tup) (k : Nat) : sget (ins L t) k = if k = freeSlot L then some t else sget L k := by
  unfold sget ins
  rw [putAt_get (freeSlot_le L)]
  split <;> rfl
theorem sget_free (L : PL) : sget L (freeSlot L) = none := by
  unfold sget
  rcases Nat.lt_or_eq_of_le (freeSlot_le L) with h | h
  · rw [freeSlot_lt h]; rfl
  · rw [List.getElem?_eq_none (by omega)]; rfl
theorem cut_get (L : PL) (n : Nat) : ∀ k, cut L n ≤ k → k < n → sget L k = none := by
  induction n with
  | zero => intro k _ h; omega
  | succ n ih =>
    intro k h1 h2
    rcases slot_cases L n with ⟨t, ht⟩ | ht | ht
    · rw [cut_eq ht] at h1; omega
    · rw [cut_none ht] at h1
      by_cases hk : k = n
      · subst hk; unfold sget; rw [ht]; rfl
      · exact ih k h1 (by omega)
    · by_cases hk : k = n
      · subst hk; unfold sget; rw [List.getElem?_eq_none ht]; rfl
      · have : cut L (n + 1) = cut L n := by simp [cut, ht]
        rw [this] at h1
        exact ih k h1 (by omega)
theorem sget_trim (L : PL) (k : Nat) : sget (trim L) k = sget L k := by
  unfold trim
  by_cases h : k < cut L L.length
  · unfold sget; rw [List.getElem?_take, if_pos h]
  · have h1 : sget (L.take (cut L L.length)) k = none := by unfold sget; rw [List.getElem?_take, if_neg h]; rfl
    rw [h1]
    by_cases h2 : k < L.length
    · exact (cut_get L L.length k (by omega) h2).symm
    · unfold sget; rw [List.getElem?_eq_none (by omega)]; rfl
theorem sget_rem {L : PL} {s : Nat} (hs : s < L.length) (k : Nat) : sget (rem L s) k = if k = s then none else sget L k := by
  unfold rem
  rw [sget_trim]
  unfold sget
  rw [set_get k hs]
  split <;> rfl
theorem usedN_append (L M : PL) : usedN (L ++ M) = usedN L + usedN M := by unfold usedN; rw [List.countP_append]
theorem usedN_none {M : PL} (h : ∀ k, sget M k = none) : usedN M = 0 := by
  unfold usedN
  rw [List.countP_eq_zero]
  intro o ho
  obtain ⟨i, hi, rfl⟩ := List.mem_iff_getElem.1 ho
  have := h i
  unfold sget at this
  rw [List.getElem?_eq_getElem hi] at this
  cases hh : M[i] with
  | none => simp
  | some t => rw [hh] at this; simp at this
theorem usedN_trim (L : PL) : usedN (trim L) = usedN L := by
  have h := usedN_append (L.take (cut L L.length)) (L.drop (cut L L.length))
  rw [List.take_append_drop] at h
  unfold trim
  have h0 : usedN (L.drop (cut L L.length)) = 0 := by
    apply usedN_none
    intro k
    unfold sget
    rw [List.getElem?_drop]
    by_cases hk : cut L L.length + k < L.length
    · exact cut_get L L.length _ (by omega) hk
    · rw [List.getElem?_eq_none (by omega)]; rfl
  omega
theorem usedN_set (L : PL) (s : Nat) (o : Option Tup) (h : s < L.length) : usedN (L.set s o) + (if (L[s]).isSome then 1 else 0) = usedN L + (if o.isSome then 1 else 0) := by
  induction L generalizing s with
  | nil => simp at h
  | cons x L ih =>
    cases s with
    | zero =>
      unfold usedN
      simp only [List.set_cons_zero, List.countP_cons, List.getElem_cons_zero]
      omega
    | succ s =>
      have := ih s (by simpa using h)
      unfold usedN at this ⊢
      simp only [List.set_cons_succ, List.countP_cons, List.getElem_cons_succ]
      omega
theorem usedN_ins (L : PL) (t : Tup) : usedN (ins L t) = usedN L + 1 := by
  unfold ins putAt
  split
  · have h := by assumption
    have h1 := usedN_set L (freeSlot L) (some t) h
    have h2 := freeSlot_lt h
    rw [List.getElem?_eq_getElem h] at h2
    injection h2 with h2
    rw [h2] at h1
    simpa using h1
  · rw [usedN_append]; rfl
theorem usedN_rem {L : PL} {s : Nat} {t : Tup} (hs : L[s]? = some (some t)) : usedN (rem L s) + 1 = usedN L := by
  have hl := getElem?_lt hs
  unfold rem
  rw [usedN_trim]
  have h1 := usedN_set L s none hl
  rw [List.getElem?_eq_getElem hl] at hs
  injection hs with hs
  rw [hs] at h1
  simpa using h1

theorem nget_set {H : List PL} {i : Nat} (hi : i < H.length) (L : PL) (p s : Nat) : nget (H.set i L) p s = if p = i then sget L s else nget H p s := by
  unfold nget
  by_cases hp : p = i
  · subst hp; rw [if_pos rfl, List.getElem?_set_self hi]; rfl
  · rw [if_neg hp, List.getElem?_set_ne (by omega)]
theorem nget_app (H : List PL) (L : PL) (p s : Nat) : nget (H ++ [L]) p s = if p = H.length then sget L s else nget H p s := by
  unfold nget
  by_cases hp : p = H.length
  · subst hp; rw [if_pos rfl, List.getElem?_append_right (by omega)]; simp
  · rw [if_neg hp]
    by_cases hl : p < H.length
    · rw [List.getElem?_append_left hl]
    · rw [List.getElem?_eq_none (by simp; omega), List.getElem?_eq_none (by omega)]
theorem usedH_set {H : List PL} {i : Nat} {L0 : PL} (hi : H[i]? = some L0) (L : PL) : usedH (H.set i L) + usedN L0 = usedH H + usedN L := by
  have hl := getElem?_lt hi
  rw [List.getElem?_eq_getElem hl] at hi
  injection hi with hi
  subst hi
  induction H generalizing i with
  | nil => simp at hl
  | cons x H ih =>
    cases i with
    | zero => unfold usedH; simp; omega
    | succ i =>
      have := ih (i := i) (by simpa using hl)
      unfold usedH at this ⊢
      simp only [List.set_cons_succ, List.map_cons, List.sum_cons, List.getElem_cons_succ]
      omega
theorem usedH_app (H : List PL) (L : PL) : usedH (H ++ [L]) = usedH H + usedN L := by unfold usedH; simp

/-- What one more does, told by places. -/
structure InsP (H : List PL) (t : Tup) (left : Nat) (p s : Nat) (H' : List PL) (left' : Nat) : Prop where
  was : nget H p s = none
  get : ∀ a b, nget H' a b = if a = p ∧ b = s then some t else nget H a b
  used : usedH H' = usedH H + 1
  len : H.length ≤ H'.length
  le : H'.length ≤ H.length + 1
  sum : H'.length + left' = H.length + left
theorem InsR.cases {H H' : List PL} {t : Tup} {left left' : Nat} {code p s : Int} (h : InsR H t left code p s H' left') :
    (code = 0 ∧ ∃ a b : Nat, p = a ∧ s = b ∧ InsP H t left a b H' left') ∨ (code = 12 ∧ H' = H ∧ left = 0 ∧ left' = 0 ∧ p = 0 ∧ s = 0 ∧ ∀ (i : Nat) (L : PL), H[i]? = some L → room L < (t.data.length : Int)) := by
  cases h with
  | old _ i L hi hr =>
    have hl := getElem?_lt hi
    refine .inl ⟨rfl, i, freeSlot L, rfl, rfl, ?_, ?_, ?_, by simp, by simp, by simp⟩
    · unfold nget; rw [hi]; exact sget_free L
    · intro a b
      rw [nget_set hl]
      by_cases ha : a = i
      · subst ha
        rw [if_pos rfl, sget_ins]
        by_cases hb : b = freeSlot L
        · rw [if_pos hb, if_pos ⟨rfl, hb⟩]
        · rw [if_neg hb, if_neg (fun h => hb h.2)]; unfold nget; rw [hi]; rfl
      · rw [if_neg ha, if_neg (fun h => ha h.1)]
    · have := usedH_set hi (ins L t)
      rw [usedN_ins] at this
      omega
  | full hr => exact .inr ⟨rfl, rfl, rfl, rfl, rfl, rfl, hr⟩
  | new left hr =>
    refine .inl ⟨rfl, H.length, 0, rfl, rfl, ?_, ?_, ?_, by simp, by simp, by simp; omega⟩
    · unfold nget; rw [List.getElem?_eq_none (by omega)]; rfl
    · intro a b
      rw [nget_app]
      by_cases ha : a = H.length
      · rw [if_pos ha, sget_ins]
        by_cases hb : b = 0
        · subst hb; rw [if_pos (show 0 = freeSlot [] from rfl), if_pos ⟨ha, rfl⟩]
        · rw [if_neg (by show ¬ b = freeSlot []; exact hb), if_neg (fun h => hb h.2)]
          unfold nget
          rw [ha, List.getElem?_eq_none (by omega)]
          rfl
      · rw [if_neg ha, if_neg (fun h => ha h.1)]
    · rw [usedH_app, usedN_ins]; rfl
/-- What one freed does. -/
theorem rem_get {H : List PL} {p s : Nat} {t : Tup} (h : nget H p s = some t) : ∃ L, H[p]? = some L ∧ L[s]? = some (some t) ∧ (∀ a b, nget (H.set p (rem L s)) a b = if a = p ∧ b = s then none else nget H a b) ∧ usedH (H.set p (rem L s)) + 1 = usedH H := by
  unfold nget at h
  cases hL : H[p]? with
  | none => rw [hL] at h; cases h
  | some L =>
    rw [hL] at h
    have hs : L[s]? = some (some t) := sget_some.1 h
    have hl := getElem?_lt hL
    refine ⟨L, rfl, hs, ?_, ?_⟩
    · intro a b
      rw [nget_set hl]
      by_cases ha : a = p
      · subst ha
        rw [if_pos rfl, sget_rem (getElem?_lt hs)]
        by_cases hb : b = s
        · rw [if_pos hb, if_pos ⟨rfl, hb⟩]
        · rw [if_neg hb, if_neg (fun h => hb h.2)]; unfold nget; rw [hL]; rfl
      · rw [if_neg ha, if_neg (fun h => ha h.1)]
    · have h1 := usedH_set hL (rem L s)
      have h2 := usedN_rem hs
      omega
end Go.Proofs.Yteokjaocnemmlaa
