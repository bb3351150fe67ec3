/-
  Plain laws: one version behind the other; how many places there are; no program in sight.
-/
import Derived.Test.YteokjaocnemmlaaHeapP
namespace Go.Proofs.Yteokjaocnemmlaa

/-- Is a place in a list? -/
def inL (l : List (Nat × Nat)) (p s : Int) : Bool := l.any fun q => (q.1 : Int) == p && (q.2 : Int) == s
theorem inL_snoc (l : List (Nat × Nat)) (a b : Nat) (p s : Int) : inL (l ++ [(a, b)]) p s = (inL l p s || ((a : Int) == p && (b : Int) == s)) := by simp [inL]
theorem inL_nat {l : List (Nat × Nat)} {a b : Nat} : inL l a b = true ↔ (a, b) ∈ l := by
  unfold inL
  rw [List.any_eq_true]
  constructor
  · rintro ⟨q, hq, h⟩
    simp at h
    obtain ⟨x, y⟩ := q
    have e1 : x = a := by omega
    have e2 : y = b := by omega
    subst e1 e2
    exact hq
  · intro h
    exact ⟨_, h, by simp⟩
theorem inL_nat_false {l : List (Nat × Nat)} {a b : Nat} : inL l a b = false ↔ (a, b) ∉ l := by
  rw [← Bool.not_eq_true, inL_nat]

/-- From a place on, behind those of l. -/
inductive Chn (H : List PL) : List (Nat × Nat) → Int → Int → List (Nat × Nat) → Prop
  | seen (l : List (Nat × Nat)) (p s : Int) (h : inL l p s = true) : Chn H l p s []
  | gone (l : List (Nat × Nat)) (p s : Int) (h : inL l p s = false) (hn : hget H p s = none) : Chn H l p s []
  | step (l : List (Nat × Nat)) (p s : Nat) (t : Tup) (h : inL l p s = false) (hs : hget H p s = some t) (r : List (Nat × Nat)) (k : Chn H (l ++ [(p, s)]) t.np t.ns r) : Chn H l p s ((p, s) :: r)

theorem hget_some {H : List PL} {p s : Int} {t : Tup} (h : hget H p s = some t) : ∃ a b : Nat, p = a ∧ s = b ∧ nget H a b = some t := by
  unfold hget pageOf at h
  by_cases h0 : p < 0
  · rw [if_pos h0] at h; cases h
  · obtain ⟨a, rfl⟩ := Int.eq_ofNat_of_zero_le (show 0 ≤ p by omega)
    by_cases h1 : s < 0
    · rw [if_neg h0] at h
      have e : (fun L => slotOf L s) = fun _ => none := by funext L; unfold slotOf; rw [if_pos h1]
      rw [e] at h
      cases hh : H[(a : Int).toNat]? <;> simp at h
    · obtain ⟨b, rfl⟩ := Int.eq_ofNat_of_zero_le (show 0 ≤ s by omega)
      refine ⟨a, b, rfl, rfl, ?_⟩
      rw [← hget_nat]
      unfold hget pageOf
      exact h

theorem Chn.eq {H : List PL} {l : List (Nat × Nat)} {p s : Int} {r r' : List (Nat × Nat)} (h : Chn H l p s r) (h' : Chn H l p s r') : r = r' := by
  induction h generalizing r' with
  | seen l p s h1 =>
    cases h' with
    | seen => rfl
    | gone => rfl
    | step _ a b t h2 => rw [h2] at h1; cases h1
  | gone l p s h1 h2 =>
    cases h' with
    | seen => rfl
    | gone => rfl
    | step _ a b t _ h4 => rw [h4] at h2; cases h2
  | step l a b t h1 h2 r k ih =>
    generalize hp : (a : Int) = p' at h'
    generalize hs : (b : Int) = s' at h'
    cases h' with
    | seen _ _ _ h3 => rw [← hp, ← hs, h1] at h3; cases h3
    | gone _ _ _ _ h3 => rw [← hp, ← hs, h2] at h3; cases h3
    | step _ a' b' t' h3 h4 r' k' =>
      have e1 : a = a' := by omega
      have e2 : b = b' := by omega
      subst e1 e2
      rw [h2] at h4
      injection h4 with h4
      subst h4
      rw [ih k']

/-! ### how many places there are -/
def placesL (i : Nat) : Nat → PL → List (Nat × Nat)
  | _, [] => []
  | j, some _ :: L => (i, j) :: placesL i (j + 1) L
  | j, none :: L => placesL i (j + 1) L
def placesH : Nat → List PL → List (Nat × Nat)
  | _, [] => []
  | i, L :: H => placesL i 0 L ++ placesH (i + 1) H
theorem placesL_length (i j : Nat) (L : PL) : (placesL i j L).length = usedN L := by
  induction L generalizing j with
  | nil => rfl
  | cons o L ih =>
    cases o with
    | none => simp [placesL, usedN, ih]
    | some t => simp [placesL, usedN, ih]
theorem placesH_length (i : Nat) (H : List PL) : (placesH i H).length = usedH H := by
  induction H generalizing i with
  | nil => rfl
  | cons L H ih => simp [placesH, usedH, placesL_length, ih]
theorem mem_placesL {i j k : Nat} {L : PL} {t : Tup} (h : L[k]? = some (some t)) : (i, j + k) ∈ placesL i j L := by
  induction L generalizing j k with
  | nil => simp at h
  | cons o L ih =>
    cases k with
    | zero => simp at h; subst h; simp [placesL]
    | succ k =>
      have := ih (j := j + 1) (k := k) (by simpa using h)
      rw [show j + (k + 1) = j + 1 + k by omega]
      cases o with
      | none => simpa [placesL] using this
      | some u => simp only [placesL]; exact List.mem_cons_of_mem _ this
theorem mem_placesH {i p s : Nat} {H : List PL} {t : Tup} (h : nget H p s = some t) : (i + p, s) ∈ placesH i H := by
  induction H generalizing i p with
  | nil => simp [nget] at h
  | cons L H ih =>
    cases p with
    | zero =>
      have h' : sget L s = some t := by simpa [nget] using h
      simp only [placesH, List.mem_append]
      have := mem_placesL (i := i) (j := 0) (sget_some.1 h')
      rw [Nat.zero_add] at this
      exact .inl this
    | succ p =>
      have := ih (i := i + 1) (p := p) (by simpa [nget] using h)
      rw [show i + (p + 1) = i + 1 + p by omega]
      simp only [placesH, List.mem_append]
      exact .inr this
theorem pigeon {α : Type} [DecidableEq α] : ∀ (l m : List α), l.Nodup → (∀ x, x ∈ l → x ∈ m) → l.length ≤ m.length
  | [], _, _, _ => by simp
  | a :: l, m, hn, hs => by
    obtain ⟨h1, h2⟩ := List.nodup_cons.1 hn
    have ha := hs a (by simp)
    have := pigeon l (m.erase a) h2 (fun x hx => by
      have hne : x ≠ a := fun e => h1 (e ▸ hx)
      exact (List.mem_erase_of_ne hne).2 (hs x (List.mem_cons_of_mem _ hx)))
    rw [List.length_erase_of_mem ha] at this
    have : 0 < m.length := List.length_pos_of_mem ha
    simp
    omega
/-- Places that are there, each once: no more than versions. -/
theorem places_le {H : List PL} {l : List (Nat × Nat)} (hn : l.Nodup) (hs : ∀ q, q ∈ l → ∃ t, nget H q.1 q.2 = some t) : l.length ≤ usedH H := by
  rw [← placesH_length 0]
  refine pigeon _ _ hn (fun q hq => ?_)
  obtain ⟨t, ht⟩ := hs q hq
  have := mem_placesH (i := 0) ht
  rw [Nat.zero_add] at this
  exact this
end Go.Proofs.Yteokjaocnemmlaa
