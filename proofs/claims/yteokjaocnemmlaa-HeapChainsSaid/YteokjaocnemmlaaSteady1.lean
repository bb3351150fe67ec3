/-
  HeapSteady: what the law knows, kept through a round.
-/
import Derived.Test.YteokjaocnemmlaaSteadyP
namespace Go.Proofs.Yteokjaocnemmlaa
open Go.RowKit

/-- A version of d bytes, the same each time. -/
def stT (d : Nat) : Tup := ⟨1, 1, 0, -1, -1, List.replicate d 0⟩
theorem stT_len (d : Nat) : d = (stT d).data.length := by simp [stT]
theorem stT_ok (d : Nat) (hd : d ≤ 200) : (stT d).Ok := by
  refine ⟨by simp [stT], by simp [stT], by simp [stT], rfl, by rw [← stT_len]; exact hd, ?_⟩
  intro x hx
  have : x = 0 := List.eq_of_mem_replicate hx
  omega
/-- One freed, one put in its place of the list. -/
theorem FI.swap {H H1 H2 : List PL} {left : Nat} {ps : List (Nat × Nat)} {t : Tup} {k p s : Nat} {q : Nat × Nat} (h : FI H left ps (fun _ => t)) (hq : ps[k]? = some q)
    (hget : ∀ a b, nget H1 a b = if a = q.1 ∧ b = q.2 then none else nget H a b) (hused : usedH H1 + 1 = usedH H) (hlen : H1.length = H.length)
    (k2 : InsP H1 t left p s H2 left) (hlen2 : H2.length = H1.length) : FI H2 left (ps.set k (p, s)) (fun _ => t) := by
  have hk := getElem?_lt hq
  have old : ∀ (j : Nat) (r : Nat × Nat), ps[j]? = some r → j ≠ k → nget H1 r.1 r.2 = some t ∧ ¬ (r.1 = p ∧ r.2 = s) := by
    intro j r hr hj
    have h1 : nget H1 r.1 r.2 = some t := by
      rw [hget, if_neg, h.at_ j r hr]
      intro he
      exact hj (h.inj j k r hr (by rw [hq]; congr 1; exact Prod.ext he.1.symm he.2.symm))
    refine ⟨h1, fun he => ?_⟩
    rw [he.1, he.2, k2.was] at h1
    cases h1
  have key : ∀ (j : Nat) (r : Nat × Nat), (ps.set k (p, s))[j]? = some r → (j = k ∧ r = (p, s)) ∨ (j ≠ k ∧ ps[j]? = some r) := by
    intro j r hr
    rw [set_get j hk] at hr
    by_cases hj : j = k
    · rw [if_pos hj] at hr; injection hr with hr; exact .inl ⟨hj, hr.symm⟩
    · rw [if_neg hj] at hr; exact .inr ⟨hj, hr⟩
  refine ⟨?_, ?_, ?_, ?_, ?_⟩
  · intro j r hr
    rw [k2.get]
    rcases key j r hr with ⟨rfl, rfl⟩ | ⟨hj, hr'⟩
    · rw [if_pos ⟨rfl, rfl⟩]
    · rw [if_neg (old j r hr' hj).2]
      exact (old j r hr' hj).1
  · intro i j r hi hj
    rcases key i r hi with ⟨hi1, hi2⟩ | ⟨hi1, hi2⟩ <;> rcases key j r hj with ⟨hj1, hj2⟩ | ⟨hj1, hj2⟩
    · omega
    · exact absurd (by rw [hi2]; exact ⟨rfl, rfl⟩) (old j r hj2 hj1).2
    · exact absurd (by rw [hj2]; exact ⟨rfl, rfl⟩) (old i r hi2 hi1).2
    · exact h.inj i j r hi2 hj2
  · rw [k2.used, List.length_set, ← h.used]; omega
  · rw [List.length_set, hlen2, hlen]; exact h.len
  · rw [hlen2, hlen]; exact h.sum

/-- Blocks of other types are none of the heap's, and not the list's. -/
theorem HS.off {w : World} {B pl left T u : Nat} {G : HG} {H : List PL} {v : Value} {ps : List (Nat × Nat)} {cs : Array Value} (h : HS w B pl left G H v ps) (hT : w.heap[T]? = some (.cells cs u (0, 0)))
    (h1 : u ≠ 99) (h2 : u ≠ 102) (h3 : u ≠ 97) (h4 : u ≠ 104) (h5 : u ≠ 134) (h6 : u ≠ 53) : T ∉ pl :: G.foot ∧ v.ownBlock ≠ some T := by
  refine ⟨fun hm => ?_, fun e => ?_⟩
  · rcases List.mem_cons.1 hm with e | e
    · exact ne_of_type hT h.pool h1 e
    · rcases mem_foot.1 e with e | e | e | e
      · exact ne_of_type hT h.heap.head h2 e
      · obtain ⟨f, hf, _⟩ := h.heap.rooms
        exact ne_of_type hT hf h3 e
      · obtain ⟨cs2, hc2⟩ := h.heap.row_block e
        exact ne_of_type hT hc2 h4 rfl
      · obtain ⟨L, hL⟩ := h.heap.pageOf e
        obtain ⟨cs2, hc2⟩ := hL.block
        exact ne_of_type hT hc2 h5 rfl
  · obtain ⟨cs2, hc2⟩ := h.row_block e
    exact ne_of_type hT hc2 h6 rfl
end Go.Proofs.Yteokjaocnemmlaa
