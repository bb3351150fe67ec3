/-
  Plain laws of a page: its bytes, and the list of its slots; no program in sight.
-/
import Derived.Test.YteokjaocnemmlaaPage2
namespace Go.Proofs.Yteokjaocnemmlaa

structure Tup where
  row : Int
  xmin : Int
  xmax : Int
  np : Int
  ns : Int
  data : List Int

def Tup.size (t : Tup) : Nat := 30 + t.data.length
/-- A version's bytes. -/
def packB (t : Tup) (i : Nat) : Int :=
  if i < 8 then byteAt t.row i else if i < 16 then byteAt t.xmin (i - 8) else if i < 24 then byteAt t.xmax (i - 16)
  else if i < 28 then byteAt (t.np + 1) (i - 24) else if i < 30 then byteAt (t.ns + 1) (i - 28) else t.data.getD (i - 30) 0
structure Tup.Ok (t : Tup) : Prop where
  row : 0 ≤ t.row ∧ t.row ≤ 1099511627776
  xmin : 0 ≤ t.xmin ∧ t.xmin ≤ 1099511627776
  xmax : 0 ≤ t.xmax ∧ t.xmax ≤ 1099511627776
  far : farB t.np t.ns = false
  len : t.data.length ≤ 200
  byte : ∀ x, x ∈ t.data → 0 ≤ x ∧ x ≤ 255

theorem farB_false {a b : Int} (h : farB a b = false) : -1 ≤ a ∧ a < 65536 ∧ -1 ≤ b ∧ b < 65535 := by
  unfold farB at h
  split at h
  · simp at h; omega
  · simp at h; omega

abbrev PL := List (Option Tup)
def slotSize : Option Tup → Nat
  | none => 0
  | some t => t.size
def total (L : PL) : Nat := (L.map slotSize).sum
def freeSlot (L : PL) : Nat := L.findIdx Option.isNone
def room (L : PL) : Int := max (478 - (4 * L.length + total L : Nat) - (if freeSlot L = L.length then 4 else 0)) (-1)

/-- The bytes f are a page of the slots L; slot s's version lies at fr s; data begin at st. -/
structure PG (f : Nat → Int) (L : PL) (fr : Nat → Nat) (st : Nat) : Prop where
  bytes : Bytes f 512
  cnt : u16 f 0 = L.length
  sta : u16 f 2 = st
  lo : 4 + 4 * L.length ≤ st
  hi : st ≤ 512
  free : ∀ s : Nat, L[s]? = some none → u16 f (4 + 4 * s + 2) = 0
  ptr : ∀ (s : Nat) (t : Tup), L[s]? = some (some t) → u16 f (4 + 4 * s) = fr s ∧ u16 f (4 + 4 * s + 2) = t.size
  lies : ∀ (s : Nat) (t : Tup), L[s]? = some (some t) → st ≤ fr s ∧ fr s + t.size ≤ 512
  ok : ∀ (s : Nat) (t : Tup), L[s]? = some (some t) → t.Ok
  data : ∀ (s : Nat) (t : Tup), L[s]? = some (some t) → ∀ i, i < t.size → f (fr s + i) = packB t i
  apart : ∀ (s s' : Nat) (t t' : Tup), L[s]? = some (some t) → L[s']? = some (some t') → s ≠ s' → fr s + t.size ≤ fr s' ∨ fr s' + t'.size ≤ fr s
  fits : 4 + 4 * L.length + total L ≤ 512

theorem Tup.size_lo (t : Tup) : 30 ≤ t.size := by unfold Tup.size; omega
theorem getElem?_lt {α : Type} {L : List α} {s : Nat} {x : α} (h : L[s]? = some x) : s < L.length := by
  rcases Nat.lt_or_ge s L.length with h1 | h1
  · exact h1
  · simp [h1] at h
theorem slot_cases (L : PL) (s : Nat) : (∃ t, L[s]? = some (some t)) ∨ L[s]? = some none ∨ L.length ≤ s := by
  cases h : L[s]? with
  | none => right; right; simpa using h
  | some x => cases x with
    | none => right; left; rfl
    | some t => left; exact ⟨t, rfl⟩

/-! ### New -/
theorem setF_cnt (f : Nat → Int) {c s : Int} (h0 : 0 ≤ c) (h1 : c ≤ 65535) : u16 (setF f c s) 0 = c := by
  have e0 : setF f c s 0 = byteAt c 0 := by simp [setF, splice]
  have e1 : setF f c s 1 = byteAt c 1 := by simp [setF, splice]
  have := le_byteAt 2 c h0 (by omega)
  rw [le2] at this
  unfold u16
  rw [e0, e1]; exact this
theorem setF_sta (f : Nat → Int) {c s : Int} (h0 : 0 ≤ s) (h1 : s ≤ 65535) : u16 (setF f c s) 2 = s := by
  have e0 : setF f c s 2 = byteAt s 0 := by simp [setF, splice]
  have e1 : setF f c s 3 = byteAt s 1 := by simp [setF, splice]
  have := le_byteAt 2 s h0 (by omega)
  rw [le2] at this
  unfold u16
  rw [e0, e1]; exact this
theorem setF_out (f : Nat → Int) {c s : Int} {i : Nat} (h : 4 ≤ i) : setF f c s i = f i := by
  unfold setF
  rw [splice_out (by omega), splice_out (by omega)]
theorem setF_bytes {f : Nat → Int} (c s : Int) {N : Nat} (h : Bytes f N) : Bytes (setF f c s) N :=
  splice_bytes (splice_bytes h (fun _ _ => byteAt_range _ _)) (fun _ _ => byteAt_range _ _)
theorem pointF_from (f : Nat → Int) (s : Nat) {a n : Int} (h0 : 0 ≤ a) (h1 : a ≤ 65535) : u16 (pointF f s a n) (4 + 4 * s) = a := by
  have e0 : pointF f s a n (4 + 4 * s) = byteAt a 0 := by
    unfold pointF
    rw [splice_out (i := 4 + 4 * s) (by omega), splice_in (i := 4 + 4 * s) (by omega) (by omega), Nat.sub_self]
  have e1 : pointF f s a n (4 + 4 * s + 1) = byteAt a 1 := by
    unfold pointF
    rw [splice_out (i := 4 + 4 * s + 1) (by omega), splice_in (i := 4 + 4 * s + 1) (by omega) (by omega), Nat.add_sub_cancel_left]
  have := le_byteAt 2 a h0 (by omega)
  rw [le2] at this
  unfold u16
  rw [e0, e1]; exact this
theorem pointF_size (f : Nat → Int) (s : Nat) {a n : Int} (h0 : 0 ≤ n) (h1 : n ≤ 65535) : u16 (pointF f s a n) (4 + 4 * s + 2) = n := by
  have e0 : pointF f s a n (4 + 4 * s + 2) = byteAt n 0 := by
    unfold pointF
    rw [splice_in (i := 4 + 4 * s + 2) (by omega) (by omega), Nat.sub_self]
  have e1 : pointF f s a n (4 + 4 * s + 2 + 1) = byteAt n 1 := by
    unfold pointF
    rw [splice_in (i := 4 + 4 * s + 2 + 1) (by omega) (by omega), Nat.add_sub_cancel_left]
  have := le_byteAt 2 n h0 (by omega)
  rw [le2] at this
  unfold u16
  rw [e0, e1]; exact this
theorem pointF_out (f : Nat → Int) (s : Nat) {a n : Int} {i : Nat} (h : i < 4 + 4 * s ∨ 8 + 4 * s ≤ i) : pointF f s a n i = f i := by
  unfold pointF
  rw [splice_out (by omega), splice_out (by omega)]
theorem pointF_bytes {f : Nat → Int} (s : Nat) (a n : Int) {N : Nat} (h : Bytes f N) : Bytes (pointF f s a n) N :=
  splice_bytes (splice_bytes h (fun _ _ => byteAt_range _ _)) (fun _ _ => byteAt_range _ _)
theorem u16_congr {f g : Nat → Int} {a : Nat} (h : ∀ i, a ≤ i → i < a + 2 → f i = g i) : u16 f a = u16 g a := by
  unfold u16
  rw [h a (by omega) (by omega), h (a + 1) (by omega) (by omega)]

theorem PG.new : PG (setF (fun _ => 0) 0 512) [] (fun _ => 0) 512 := by
  refine ⟨setF_bytes _ _ (fun i _ => by simp), setF_cnt _ (by omega) (by omega), setF_sta _ (by omega) (by omega), by simp, by omega, ?_, ?_, ?_, ?_, ?_, ?_, by simp [total]⟩ <;> intros <;> simp_all

/-! ### The list's own laws -/
theorem total_nil : total [] = 0 := rfl
theorem total_cons (o : Option Tup) (L : PL) : total (o :: L) = slotSize o + total L := by simp [total]
theorem total_append (L M : PL) : total (L ++ M) = total L + total M := by simp [total]
theorem total_set (L : PL) (s : Nat) (o : Option Tup) (h : s < L.length) : total (L.set s o) + slotSize (L[s]) = total L + slotSize o := by
  induction L generalizing s with
  | nil => simp at h
  | cons x L ih =>
    cases s with
    | zero => simp [total_cons]; omega
    | succ s =>
      simp only [List.set_cons_succ, total_cons, List.getElem_cons_succ]
      have := ih s (by simpa using h)
      omega
theorem total_take_le (L : PL) (n : Nat) : total (L.take n) ≤ total L := by
  have := total_append (L.take n) (L.drop n)
  rw [List.take_append_drop] at this
  omega
theorem total_take_succ (L : PL) (n : Nat) (h : n < L.length) : total (L.take (n + 1)) = total (L.take n) + slotSize L[n] := by
  rw [List.take_succ_eq_append_getElem h, total_append]
  simp [total]
theorem freeSlot_le (L : PL) : freeSlot L ≤ L.length := List.findIdx_le_length
theorem freeSlot_lt {L : PL} (h : freeSlot L < L.length) : L[freeSlot L]? = some none := by
  have := List.findIdx_getElem (w := h)
  rw [List.getElem?_eq_getElem h]
  cases hh : L[freeSlot L] with
  | none => rfl
  | some t =>
    exfalso
    have h2 : (L[freeSlot L]).isNone = true := this
    rw [hh] at h2
    simp at h2
theorem freeSlot_before {L : PL} {i : Nat} (h : i < freeSlot L) : ∃ t, L[i]? = some (some t) := by
  have hl : i < L.length := Nat.lt_of_lt_of_le h (freeSlot_le L)
  have := List.not_of_lt_findIdx h
  cases hh : L[i] with
  | none => simp [hh] at this
  | some t => exact ⟨t, by rw [List.getElem?_eq_getElem hl, hh]⟩

end Go.Proofs.Yteokjaocnemmlaa
