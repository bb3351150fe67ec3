/-
  Plain laws: where a version is freed, one of its size has room again.
-/
import Derived.Test.YteokjaocnemmlaaHeap10
namespace Go.Proofs.Yteokjaocnemmlaa

theorem total_none {M : PL} (h : ∀ k, sget M k = none) : total M = 0 := by
  induction M with
  | nil => rfl
  | cons o M ih =>
    rw [total_cons, ih (fun k => by have := h (k + 1); unfold sget at this ⊢; simpa using this)]
    have h0 := h 0
    unfold sget at h0
    cases o with
    | none => rfl
    | some t => simp at h0
theorem drop_none (L : PL) : ∀ k, sget (L.drop (cut L L.length)) k = none := by
  intro k
  unfold sget
  rw [List.getElem?_drop]
  by_cases hk : cut L L.length + k < L.length
  · exact cut_get L L.length _ (by omega) hk
  · rw [List.getElem?_eq_none (by omega)]; rfl
theorem total_trim (L : PL) : total (trim L) = total L := by
  have h := total_append (L.take (cut L L.length)) (L.drop (cut L L.length))
  rw [List.take_append_drop, total_none (drop_none L)] at h
  unfold trim
  omega
theorem freeSlot_le_of {L : PL} {s : Nat} (h : L[s]? = some none) : freeSlot L ≤ s := by
  rcases Nat.lt_or_ge s (freeSlot L) with h1 | h1
  · obtain ⟨t, ht⟩ := freeSlot_before h1
    rw [h] at ht
    cases ht
  · exact h1
theorem room_rem {L : PL} {s : Nat} {t : Tup} (hfit : 4 + 4 * L.length + total L ≤ 512) (hs : L[s]? = some (some t)) : (t.data.length : Int) ≤ room (rem L s) := by
  have hl := getElem?_lt hs
  have h1 := total_set L s none hl
  rw [List.getElem?_eq_getElem hl] at hs
  injection hs with hs
  rw [hs] at h1
  simp only [slotSize] at h1
  unfold Tup.size at h1
  have h2 := total_trim (L.set s none)
  have h3 : (rem L s).length ≤ L.length := by
    unfold rem trim
    rw [List.length_take, List.length_set]
    omega
  have h4 : freeSlot (rem L s) = (rem L s).length → (rem L s).length + 1 ≤ L.length := by
    intro hf
    rcases Nat.lt_or_ge s (rem L s).length with h5 | h5
    · exfalso
      have h6 : (rem L s)[s]? = some none := by
        unfold rem trim at h5 ⊢
        rw [List.length_take, List.length_set] at h5
        rw [List.getElem?_take, if_pos (by rw [List.length_set]; omega), List.getElem?_set_self hl]
      have := freeSlot_le_of h6
      omega
    · omega
  have h7 : total (rem L s) = total (L.set s none) := h2
  unfold room
  split
  · have := h4 (by assumption)
    omega
  · omega
theorem PageAt.fits {w : World} {b : Nat} {L : PL} (h : PageAt w b L) : 4 + 4 * L.length + total L ≤ 512 := by
  obtain ⟨f, fr, st, _, h2⟩ := h
  exact h2.fits
/-- Behind a free, one of that size goes to a page that there is. -/
theorem InsR.stays {H H' : List PL} {t : Tup} {left left' : Nat} {code p s : Int} (h : InsR H t left code p s H' left') {i : Nat} {L : PL} (hi : H[i]? = some L) (hr : (t.data.length : Int) ≤ room L) :
    H'.length = H.length ∧ left' = left ∧ ∃ a b : Nat, code = 0 ∧ p = a ∧ s = b ∧ InsP H t left a b H' left' := by
  have hc := h.cases
  cases h with
  | old _ j L' hj hr' =>
    rcases hc with ⟨_, a, b, h1, h2, h3⟩ | ⟨h0, _⟩
    · exact ⟨by simp, rfl, a, b, rfl, h1, h2, h3⟩
    · omega
  | full hn => have := hn i L hi; omega
  | new left hn => have := hn i L hi; omega
end Go.Proofs.Yteokjaocnemmlaa
