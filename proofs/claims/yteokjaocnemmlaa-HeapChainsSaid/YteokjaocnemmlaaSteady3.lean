/-
  HeapSteady: a round's calls: one freed, one put in its place.
-/
import Derived.Test.YteokjaocnemmlaaSteady1
namespace Go.Proofs.Yteokjaocnemmlaa
open Go.RowKit

/-- Insert behind a free of one of its size: no page is taken. -/
theorem hins_round {w : World} {B pl left hb d b i : Nat} {G : HG} {H : List PL} {v : Value} {ps : List (Nat × Nat)} {L : PL} (hS : HS w B pl left G H v ps) (hB : B ≤ w.heap.size) (h256 : H.length + left = 256) (hG : G.hb = hb) (hd : d ≤ 200) (hD : w.heap[b]? = some (ints .u8 5 200 (fun _ => 0)))
    (hL : H[i]? = some L) (hr : ((stT d).data.length : Int) ≤ room L) :
    Calls Try.prog 24 #[.pointer (some ⟨hb, 0, none⟩), .agg #[.int .u64 1, .int .u64 1, .int .u64 0, .int .i64 (-1), .int .i64 (-1), .slice (some ⟨b, 0, none⟩) d 200]] w fun e w' =>
      ∃ (p s' : Nat) (G' : HG) (H' : List PL), e = .returned (.tuple #[.agg #[.int .i64 p, .int .i64 s'], .int .i64 0]) ∧ G'.hb = hb ∧ HS w' B pl left G' H' v ps ∧ InsP H (stT d) left p s' H' left ∧ H'.length = H.length ∧ Chg (pl :: G.foot) w w' := by
  subst hG
  refine (hinsert_any hS.heap hS.pool (by omega) (stT d) (some ⟨b, 0, none⟩) d 200 (stT_len d) (stT_ok d hd) (by intro j hj; injection hj with hj; subst hj; exact (hS.off hD (by decide) (by decide) (by decide) (by decide) (by decide) (by decide)).1) (zeros_src hD hd 200)).mono ?_
  rintro e w' ⟨code, p, s, H', left', G', rfl, hR, hG, hh, hp, hf, hC⟩
  obtain ⟨h1, rfl, a, c, rfl, rfl, rfl, hI⟩ := hR.stays hL hr
  exact ⟨a, c, G', H', rfl, hG, hS.turn hC hB hh hp hf, hI, h1, hC⟩

theorem tids_set {ps : List (Nat × Nat)} {i : Nat} (h : i < ps.length) (p s : Nat) : ((tids ps).set (i * 2) (.int .i64 p)).set (i * 2 + 1) (.int .i64 s) = tids (ps.set i (p, s)) := by
  induction ps generalizing i with
  | nil => simp at h
  | cons x ps ih =>
    have e : ∀ (y : Nat × Nat) (l : List (Nat × Nat)), tids (y :: l) = .int .i64 y.1 :: .int .i64 y.2 :: tids l := fun _ _ => rfl
    cases i with
    | zero => rw [List.set_cons_zero, e, e]; rfl
    | succ i =>
      rw [List.set_cons_succ, e, e, show (i + 1) * 2 = i * 2 + 1 + 1 by omega, List.set_cons_succ, List.set_cons_succ, List.set_cons_succ, List.set_cons_succ]
      rw [ih (by simpa using h)]
theorem hfree_hs2 {w : World} {B pl left hb : Nat} {G : HG} {H : List PL} {v : Value} {ps : List (Nat × Nat)} {q : Nat × Nat} {t : Tup} (hS : HS w B pl left G H v ps) (hB : B ≤ w.heap.size) (hG : G.hb = hb) (hq : nget H q.1 q.2 = some t) :
    Calls Try.prog 31 #[.pointer (some ⟨hb, 0, none⟩), .agg #[.int .i64 q.1, .int .i64 q.2]] w fun e w' => e = .returned (.int .i64 0) ∧ (∃ H' L', HS w' B pl left G H' v ps ∧ (∀ a b, nget H' a b = if a = q.1 ∧ b = q.2 then none else nget H a b) ∧ usedH H' + 1 = usedH H ∧ H'.length = H.length ∧ H'[q.1]? = some L' ∧ (t.data.length : Int) ≤ room L') ∧ Chg G.foot w w' := by
  subst hG
  obtain ⟨L, hL, hs, hget, hused⟩ := rem_get hq
  obtain ⟨b, _, hp⟩ := hS.heap.ptr_of hL
  have hr := room_rem hp.fits hs
  refine (hfree_ok hS.heap hL hs).mono ?_
  rintro e w' ⟨rfl, hh, hC⟩
  exact ⟨rfl, ⟨_, rem L q.2, hS.turn (hC.mono (fun x hx => List.mem_cons_of_mem _ hx)) hB hh (hS.pool.chg hC (hS.heap.pl_ne hS.pool)) (fun x hx => .inl hx), hget, hused, by simp, List.getElem?_set_self (getElem?_lt hL), hr⟩, hC⟩
/-- A place of the list is another one. -/
theorem HS.setPlace {w : World} {B pl left k g cp i : Nat} {G : HG} {H : List PL} {ps : List (Nat × Nat)} (h : HS w B pl left G H (.slice (some ⟨g, 0, none⟩) k cp) ps) (hk : ps.length = k) (hi : i < k) (p s : Nat) :
    HS ((w.setCell ⟨g, i * 2, none⟩ (.int .i64 p)).setCell ⟨g, i * 2 + 1, none⟩ (.int .i64 s)) B pl left G H (.slice (some ⟨g, 0, none⟩) k cp) (ps.set i (p, s)) := by
  have hoff := h.row_off (g := g) rfl
  have hC : Chg [g] w ((w.setCell ⟨g, i * 2, none⟩ (.int .i64 p)).setCell ⟨g, i * 2 + 1, none⟩ (.int .i64 s)) := ((Chg.refl [g] w).setCell (.inl (by simp)) _).setCell (.inl (by simp)) _
  refine ⟨h.heap.chg hC ?_, h.pool.chg hC ?_, ?_, h.gep, h.gef, h.ger⟩
  · intro x hx hm
    simp at hm
    subst hm
    exact hoff (List.mem_cons_of_mem _ hx)
  · intro hm
    simp at hm
    exact hoff (by rw [hm]; simp)
  · have hrow := h.row
    rcases hrow.2 with ⟨he, _⟩ | ⟨g', cap, cur, he, h0, hg, h1, h2, h3, h4⟩
    · cases he
    · injection he with he1 he2 he3
      injection he1 with he1
      injection he1 with he1
      subst he1 he3
      have a1 := heap_setCell_same w g (i * 2) _ 53 (.int .i64 p) hg
      have a2 := heap_setCell_same _ g (i * 2 + 1) _ 53 (.int .i64 s) a1
      refine ⟨by rw [tids_length], .inr ⟨g, cp, _, by rw [List.length_set, hk], h0, a2, by rw [List.length_set]; exact h1, h2, by simpa using h3, ?_⟩⟩
      rw [List.length_set]
      simp only [Array.toList_setIfInBounds]
      rw [List.take_set, List.take_set, h4]
      exact tids_set (by omega) p s
end Go.Proofs.Yteokjaocnemmlaa
