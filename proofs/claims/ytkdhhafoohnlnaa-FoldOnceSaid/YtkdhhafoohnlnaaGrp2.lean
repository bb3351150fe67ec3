/-
  The walk of fold.Groups.
-/
import Derived.Test.YtkdhhafoohnlnaaGrp1
import Derived.Laws.OwnMore
namespace Go.Proofs.Ytkdhhafoohnlnaa
open Go.RowKit

theorem getElem?_lt {α : Type} {L : List α} {s : Nat} {x : α} (h : L[s]? = some x) : s < L.length := by
  rcases Nat.lt_or_ge s L.length with h1 | h1
  · exact h1
  · simp [h1] at h
theorem Own.block {w : World} {e size n k : Nat} {v : Value} {xs : List Value} (h : Own w e size v n xs) (hk : v.ownBlock = some k) : ∃ cs, w.heap[k]? = some (.cells cs e (0, 0)) := by
  rcases h.2 with ⟨he, _⟩ | ⟨g', cap, cur, he, _, hh, _⟩
  · rw [he] at hk; cases hk
  · rw [he] at hk
    injection hk with hk
    subst hk
    exact ⟨_, hh⟩
/-- Rows of two types are two blocks. -/
theorem Own.apart {w : World} {e e' size size' n n' k : Nat} {v v' : Value} {xs xs' : List Value} (h : Own w e size v n xs) (h' : Own w e' size' v' n' xs') (he : e ≠ e') (hk : v.ownBlock = some k) : v'.ownBlock ≠ some k := by
  intro hk'
  obtain ⟨cs, h1⟩ := h.block hk
  obtain ⟨cs', h2⟩ := h'.block hk'
  rw [h1] at h2
  injection h2 with h2
  injection h2 with _ h2
  exact he h2
/-- A cell of a row is another one. -/
theorem Own.set1 {w : World} {e n g cap i : Nat} {xs : List Value} (h : Own w e 1 (.slice (some ⟨g, 0, none⟩) n cap) n xs) (u : Value) : Own (w.setCell ⟨g, i, none⟩ u) e 1 (.slice (some ⟨g, 0, none⟩) n cap) n (xs.set i u) ∨ n ≤ i := by
  rcases Nat.lt_or_ge i n with hi | hi
  · left
    rcases h.2 with ⟨he, _⟩ | ⟨g', cap', cur, he, h0, hg, h1, h2, h3, h4⟩
    · cases he
    · injection he with he1 he2 he3
      injection he1 with he1
      injection he1 with he1
      subst he1 he3
      refine ⟨by rw [List.length_set]; exact h.1, .inr ⟨g, cap, _, rfl, h0, heap_setCell_same w g i _ e u hg, h1, h2, by simpa using h3, ?_⟩⟩
      simp only [Array.toList_setIfInBounds]
      rw [List.take_set, h4]
  · exact .inr hi

theorem GAt.push {w w2 w3 : World} {v v' u : Value} {out : List (List Nat)} {vs : List Value} {l0 : List Nat} (h : GAt w v out vs) (hC : Chg [] w w2) (hu : NatsAt w2 u l0) (hne0 : l0 ≠ []) (hnew : ∀ b, u.ownBlock = some b → w.heap.size ≤ b) (ha : App w2 w3 28 1 v v' (out.length + 1) (vs ++ [u])) : GAt w3 v' (out ++ [l0]) (vs ++ [u]) := by
  have hrow := h.row.chg hC (by simp)
  refine ⟨by simp [h.len], by simpa using ha.own, ?_, ?_, ?_⟩
  · intro j l x hl hx
    by_cases hj : j < out.length
    · rw [List.getElem?_append_left hj] at hl
      rw [List.getElem?_append_left (by rw [h.len]; exact hj)] at hx
      have h1 := (h.inn j l x hl hx).chg hC (by simp)
      refine h1.chg ha.chg (fun k hk hm => ?_)
      rw [Option.mem_toList] at hm
      exact hrow.apart h1 (by decide) hm hk
    · have hl2 := getElem?_lt hl
      have hje : j = out.length := by simp at hl2; omega
      subst hje
      rw [List.getElem?_append_right (by omega)] at hl
      rw [List.getElem?_append_right (by rw [h.len]; omega)] at hx
      simp at hl
      simp [h.len] at hx
      subst hl hx
      refine hu.chg ha.chg (fun k hk hm => ?_)
      rw [Option.mem_toList] at hm
      exact hrow.apart hu (by decide) hm hk
  · have old : ∀ (j b : Nat) (x : Value), vs[j]? = some x → x.ownBlock = some b → b < w.heap.size := by
      intro j b x hx hb
      have hjl := getElem?_lt hx
      rw [h.len] at hjl
      exact (h.inn j _ x (List.getElem?_eq_getElem hjl) hx).lt' b hb
    have key : ∀ (j : Nat) (x : Value), (vs ++ [u])[j]? = some x → (j < vs.length ∧ vs[j]? = some x) ∨ (j = vs.length ∧ x = u) := by
      intro j x hx
      by_cases hj : j < vs.length
      · rw [List.getElem?_append_left hj] at hx
        exact .inl ⟨hj, hx⟩
      · have hl2 := getElem?_lt hx
        have hje : j = vs.length := by simp at hl2; omega
        subst hje
        rw [List.getElem?_append_right (by omega)] at hx
        simp at hx
        exact .inr ⟨rfl, hx.symm⟩
    intro i' j b x x' hij hx hx' hb hb'
    rcases key i' x hx with ⟨h1, h2⟩ | ⟨h1, h2⟩ <;> rcases key j x' hx' with ⟨h3, h4⟩ | ⟨h3, h4⟩
    · exact h.dis i' j b x x' hij h2 h4 hb hb'
    · subst h4
      have := old i' b x h2 hb
      have := hnew b hb'
      omega
    · subst h2
      have := old j b x' h4 hb'
      have := hnew b hb
      omega
    · omega
  · intro l hl
    rcases List.mem_append.1 hl with h1 | h1
    · exact h.ne l h1
    · simp at h1
      rw [h1]
      exact hne0
theorem GAt.into {w w2 : World} {u u' : Value} {out : List (List Nat)} {vs : List Value} {gb c g i : Nat} {l : List Nat} (h : GAt w (.slice (some ⟨gb, 0, none⟩) out.length c) out vs) (hg : out[g]? = some l) (hu : vs[g]? = some u)
    (ha : App w w2 3 1 u u' (l.length + 1) (nats l ++ [.int .i64 i])) : GAt (w2.setCell ⟨gb, g, none⟩ u') (.slice (some ⟨gb, 0, none⟩) out.length c) (out.set g (l ++ [i])) (vs.set g u') := by
  have hgl := getElem?_lt hg
  have hinn := h.inn g l u hg hu
  have hrow2 : Own w2 28 1 (.slice (some ⟨gb, 0, none⟩) out.length c) out.length vs := h.row.chg ha.chg (fun k hk hm => by
    rw [Option.mem_toList] at hm
    exact hinn.apart h.row (by decide) hm hk)
  have hown := ha.own
  rw [nats_app] at hown
  have hgb2 : ∀ (k : Nat), u'.ownBlock = some k → k ≠ gb := by
    intro k hk e
    subst e
    exact hown.apart hrow2 (by decide) hk rfl
  have hCs : Chg [gb] w2 (w2.setCell ⟨gb, g, none⟩ u') := (Chg.refl [gb] w2).setCell (.inl (by simp)) _
  refine ⟨by simp [h.len], ?_, ?_, ?_, ?_⟩
  · rw [List.length_set]
    rcases hrow2.set1 (i := g) u' with h1 | h1
    · exact h1
    · omega
  · intro j l' x hl hx
    by_cases hj : j = g
    · subst hj
      rw [List.getElem?_set_self hgl] at hl
      rw [List.getElem?_set_self (by rw [h.len]; exact hgl)] at hx
      injection hl with hl
      injection hx with hx
      subst hl hx
      have : NatsAt w2 u' (l ++ [i]) := by simpa [NatsAt] using hown
      exact this.chg hCs (fun k hk => by simpa using hgb2 k hk)
    · rw [List.getElem?_set_ne (Ne.symm hj)] at hl hx
      have h1 := h.inn j l' x hl hx
      have h2 := h1.chg ha.chg (fun k hk hm => by
        rw [Option.mem_toList] at hm
        exact h.dis j g k x u hj hx hu hk hm)
      refine h2.chg hCs (fun k hk => ?_)
      simp
      intro e
      subst e
      exact h2.apart hrow2 (by decide) hk rfl
  · have old : ∀ (j b : Nat) (x : Value), vs[j]? = some x → x.ownBlock = some b → b < w.heap.size := by
      intro j b x hx hb
      have hjl := getElem?_lt hx
      rw [h.len] at hjl
      exact (h.inn j _ x (List.getElem?_eq_getElem hjl) hx).lt' b hb
    have key : ∀ (j b : Nat) (x : Value), j ≠ g → vs[j]? = some x → x.ownBlock = some b → u'.ownBlock ≠ some b := by
      intro j b x hj hx hb hb'
      rcases ha.at_ b hb' with e | e
      · exact h.dis j g b x u hj hx hu hb e
      · have := old j b x hx hb; omega
    intro i' j b x x' hij hx hx' hb hb'
    by_cases h1 : i' = g
    · subst h1
      rw [List.getElem?_set_self (by rw [h.len]; exact hgl)] at hx
      injection hx with hx
      subst hx
      rw [List.getElem?_set_ne hij] at hx'
      exact key j b x' (Ne.symm hij) hx' hb' hb
    · rw [List.getElem?_set_ne (Ne.symm h1)] at hx
      by_cases h2 : j = g
      · subst h2
        rw [List.getElem?_set_self (by rw [h.len]; exact hgl)] at hx'
        injection hx' with hx'
        subst hx'
        exact key i' b x h1 hx hb hb'
      · rw [List.getElem?_set_ne (Ne.symm h2)] at hx'
        exact h.dis i' j b x x' hij hx hx' hb hb'
  · intro l' hl'
    rcases List.mem_or_eq_of_mem_set hl' with h1 | h1
    · exact h.ne l' h1
    · rw [h1]; simp
end Go.Proofs.Ytkdhhafoohnlnaa
