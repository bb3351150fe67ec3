/-
  HeapChains: versions laid one behind the other, told by their places; what Chain answers of them.
-/
import Derived.Test.YteokjaocnemmlaaHeap12
import Derived.Test.YteokjaocnemmlaaSteady1
namespace Go.Proofs.Yteokjaocnemmlaa
open Go.RowKit

theorem stamp_get {H : List PL} {i s : Nat} {L : PL} {t : Tup} (hL : H[i]? = some L) (hs : L[s]? = some (some t)) (t' : Tup) :
    (∀ a b, nget (H.set i (L.set s (some t'))) a b = if a = i ∧ b = s then some t' else nget H a b) ∧ usedH (H.set i (L.set s (some t'))) = usedH H := by
  have hl := getElem?_lt hL
  have hsl := getElem?_lt hs
  constructor
  · intro a b
    rw [nget_set hl]
    by_cases ha : a = i
    · subst ha
      rw [if_pos rfl]
      by_cases hb : b = s
      · subst hb
        rw [if_pos ⟨rfl, rfl⟩]
        unfold sget
        rw [List.getElem?_set_self hsl]
        rfl
      · rw [if_neg (fun h => hb h.2)]
        unfold sget nget
        rw [List.getElem?_set_ne (fun e => hb e.symm), hL]
        rfl
    · rw [if_neg ha, if_neg (fun h => ha h.1)]
  · have h1 := usedH_set hL (L.set s (some t'))
    have h2 := usedN_set L s (some t') hsl
    rw [List.getElem?_eq_getElem hsl] at hs
    injection hs with hs
    rw [hs] at h2
    simp at h2
    omega
theorem FI.stamp {H H' : List PL} {left k : Nat} {ps : List (Nat × Nat)} {T : Nat → Tup} {q : Nat × Nat} {t' : Tup} (h : FI H left ps T) (hq : ps[k]? = some q)
    (hget : ∀ a b, nget H' a b = if a = q.1 ∧ b = q.2 then some t' else nget H a b) (hused : usedH H' = usedH H) (hlen : H'.length = H.length) : FI H' left ps (fun j => if j = k then t' else T j) := by
  refine ⟨?_, h.inj, by rw [hused]; exact h.used, by rw [hlen]; exact h.len, by rw [hlen]; exact h.sum⟩
  intro j r hr
  rw [hget]
  by_cases hj : j = k
  · subst hj
    rw [hq] at hr
    injection hr with hr
    subst hr
    rw [if_pos ⟨rfl, rfl⟩, if_pos rfl]
  · rw [if_neg, if_neg hj]
    · exact h.at_ j r hr
    · intro he
      exact hj (h.inj j k r hr (by rw [hq]; congr 1; exact Prod.ext he.1.symm he.2.symm))
theorem FI.congr {H : List PL} {left : Nat} {ps : List (Nat × Nat)} {T T' : Nat → Tup} (h : FI H left ps T) (he : ∀ j, j < ps.length → T j = T' j) : FI H left ps T' :=
  ⟨fun j q hq => by rw [← he j (getElem?_lt hq)]; exact h.at_ j q hq, h.inj, h.used, h.len, h.sum⟩
theorem FI.nodup {H : List PL} {left : Nat} {ps : List (Nat × Nat)} {T : Nat → Tup} (h : FI H left ps T) : ps.Nodup := by
  unfold List.Nodup
  rw [List.pairwise_iff_getElem]
  intro i j hi hj hij he
  have := h.inj i j ps[i] (List.getElem?_eq_getElem hi) (by rw [he]; exact List.getElem?_eq_getElem hj)
  omega

/-- The one behind. -/
def nx (ps : List (Nat × Nat)) (j : Nat) : Nat × Nat := ps.getD (if j + 1 < ps.length then j + 1 else 0) (0, 0)
/-- The first k are told of the ones behind them. -/
def lkT (ps : List (Nat × Nat)) (k j : Nat) : Tup := if j < k then (stT 50).stamp 1 (nx ps j).1 (nx ps j).2 else stT 50
theorem lkT_zero (ps : List (Nat × Nat)) (j : Nat) : lkT ps 0 j = stT 50 := by simp [lkT]
theorem stamp_stamp (t : Tup) (a b c a' b' c' : Int) : (t.stamp a b c).stamp a' b' c' = t.stamp a' b' c' := rfl
theorem FI.link {H H' : List PL} {left k : Nat} {ps : List (Nat × Nat)} {q q' : Nat × Nat} (h : FI H left ps (lkT ps k)) (hq : ps[k]? = some q) (hq' : nx ps k = q')
    (hget : ∀ a b, nget H' a b = if a = q.1 ∧ b = q.2 then some ((stT 50).stamp 1 q'.1 q'.2) else nget H a b) (hused : usedH H' = usedH H) (hlen : H'.length = H.length) : FI H' left ps (lkT ps (k + 1)) := by
  refine (h.stamp hq hget hused hlen).congr (fun j _ => ?_)
  subst hq'
  unfold lkT
  by_cases hj : j = k
  · subst hj; rw [if_pos rfl, if_pos (by omega)]
  · rw [if_neg hj]
    by_cases hk : j < k
    · rw [if_pos hk, if_pos (by omega)]
    · rw [if_neg hk, if_neg (by omega)]

theorem chn_order {H : List PL} {o : List (Nat × Nat)} (hnd : o.Nodup)
    (hlink : ∀ (i : Nat) (q q' : Nat × Nat), o[i]? = some q → o[i + 1]? = some q' → ∃ t, nget H q.1 q.2 = some t ∧ t.np = q'.1 ∧ t.ns = q'.2)
    (hlast : ∀ (q : Nat × Nat), o[o.length - 1]? = some q → ∃ t, nget H q.1 q.2 = some t ∧ (inL o t.np t.ns = true ∨ (inL o t.np t.ns = false ∧ hget H t.np t.ns = none))) :
    ∀ (r : List (Nat × Nat)) (d : List (Nat × Nat)) (q : Nat × Nat), o = d ++ q :: r → Chn H d q.1 q.2 (q :: r) := by
  have fresh : ∀ (d r : List (Nat × Nat)) (q : Nat × Nat), o = d ++ q :: r → inL d q.1 q.2 = false := by
    intro d r q ho
    rw [inL_nat_false]
    intro hm
    rw [ho, List.nodup_append] at hnd
    exact hnd.2.2 _ hm _ (List.mem_cons_self) rfl
  intro r
  induction r with
  | nil =>
    intro d q ho
    obtain ⟨t, ht, hl⟩ := hlast q (by rw [ho]; simp)
    refine .step d q.1 q.2 t (fresh d [] q ho) (by rw [hget_nat]; exact ht) [] ?_
    rw [show d ++ [(q.1, q.2)] = o from ho.symm]
    rcases hl with h | ⟨h1, h2⟩
    · exact .seen _ _ _ h
    · exact .gone _ _ _ h1 h2
  | cons q' r ih =>
    intro d q ho
    obtain ⟨t, ht, h1, h2⟩ := hlink d.length q q' (by rw [ho]; simp) (by rw [ho]; simp)
    refine .step d q.1 q.2 t (fresh d _ q ho) (by rw [hget_nat]; exact ht) _ ?_
    rw [h1, h2]
    exact ih (d ++ [q]) q' (by rw [ho]; simp)

theorem nx_some {ps : List (Nat × Nat)} {j : Nat} {q : Nat × Nat} (h : ps[j + 1]? = some q) : nx ps j = q := by
  have hl := getElem?_lt h
  unfold nx
  rw [if_pos hl, List.getD_eq_getElem?_getD, h]; rfl
theorem nx_last {ps : List (Nat × Nat)} {j : Nat} {q : Nat × Nat} (hj : ps.length ≤ j + 1) (h : ps[0]? = some q) : nx ps j = q := by
  unfold nx
  rw [if_neg (by omega), List.getD_eq_getElem?_getD, h]; rfl
theorem nx_mem {ps : List (Nat × Nat)} (j : Nat) (h : 0 < ps.length) : nx ps j ∈ ps := by
  unfold nx
  split
  · rename_i h1
    rw [List.getD_eq_getElem?_getD, List.getElem?_eq_getElem h1]
    exact List.getElem_mem _
  · rw [List.getD_eq_getElem?_getD, List.getElem?_eq_getElem h]
    exact List.getElem_mem _

theorem hget_neg (H : List PL) (p s : Int) (h : p < 0) : hget H p s = none := by unfold hget pageOf; rw [if_pos h]; rfl
/-- From any of them on, to the end. -/
theorem chn_line {H : List PL} {left n f : Nat} {ps : List (Nat × Nat)} {q : Nat × Nat} (h : FI H left ps (lkT ps (n - 1))) (hn : ps.length = n) (hq : ps[f]? = some q) : Chn H [] q.1 q.2 (ps.drop f) := by
  have hf := getElem?_lt hq
  have hd : ps.drop f = q :: ps.drop (f + 1) := by
    rw [List.drop_eq_getElem_cons hf]
    rw [List.getElem?_eq_getElem hf] at hq
    injection hq with hq
    rw [hq]
  rw [hd]
  refine chn_order (o := ps.drop f) (h.nodup.sublist (List.drop_sublist _ _)) ?_ ?_ _ [] q hd
  · intro i a b ha hb
    rw [List.getElem?_drop] at ha hb
    have hlt := getElem?_lt hb
    refine ⟨_, h.at_ _ a ha, ?_⟩
    unfold lkT
    rw [if_pos (by omega), nx_some (q := b) (by rw [show f + i + 1 = f + (i + 1) by omega]; exact hb)]
    exact ⟨rfl, rfl⟩
  · intro a ha
    rw [List.getElem?_drop, List.length_drop] at ha
    refine ⟨_, h.at_ _ a ha, .inr ?_⟩
    unfold lkT
    rw [if_neg (by omega)]
    refine ⟨?_, hget_neg _ _ _ (by decide)⟩
    unfold inL
    rw [List.any_eq_false]
    intro x _
    show ¬ (((x.1 : Int) == -1 && (x.2 : Int) == -1) = true)
    simp
/-- .. round the circle, once. -/
theorem chn_circle {H : List PL} {left n f : Nat} {ps : List (Nat × Nat)} {q : Nat × Nat} (h : FI H left ps (lkT ps n)) (hn : ps.length = n) (hq : ps[f]? = some q) : Chn H [] q.1 q.2 (ps.drop f ++ ps.take f) := by
  have hf := getElem?_lt hq
  have hd : ps.drop f ++ ps.take f = q :: (ps.drop (f + 1) ++ ps.take f) := by
    rw [List.drop_eq_getElem_cons hf]
    rw [List.getElem?_eq_getElem hf] at hq
    injection hq with hq
    rw [hq]
    rfl
  have hget : ∀ (i : Nat) (a : Nat × Nat), (ps.drop f ++ ps.take f)[i]? = some a → i < n ∧ ps[if i < n - f then f + i else i - (n - f)]? = some a := by
    intro i a ha
    have hl := getElem?_lt ha
    rw [List.length_append, List.length_drop, List.length_take] at hl
    refine ⟨by omega, ?_⟩
    by_cases hi : i < n - f
    · rw [if_pos hi]
      rw [List.getElem?_append_left (by rw [List.length_drop]; omega), List.getElem?_drop] at ha
      exact ha
    · rw [if_neg hi]
      rw [List.getElem?_append_right (by rw [List.length_drop]; omega), List.length_drop, List.getElem?_take] at ha
      rw [hn] at ha
      split at ha
      · exact ha
      · cases ha
  rw [hd]
  refine chn_order (o := ps.drop f ++ ps.take f) ?_ ?_ ?_ _ [] q hd
  · have := h.nodup
    rw [← List.take_append_drop f ps, List.nodup_append] at this
    rw [List.nodup_append]
    exact ⟨this.2.1, this.1, fun a ha b hb e => this.2.2 b hb a ha e.symm⟩
  · intro i a b ha hb
    obtain ⟨h1, h2⟩ := hget i a ha
    obtain ⟨h3, h4⟩ := hget (i + 1) b hb
    refine ⟨_, h.at_ _ a h2, ?_⟩
    have hlt := getElem?_lt h2
    unfold lkT
    rw [if_pos (by omega)]
    have : nx ps (if i < n - f then f + i else i - (n - f)) = b := by
      by_cases hi : i + 1 < n - f
      · rw [if_pos hi] at h4
        rw [if_pos (by omega)]
        exact nx_some h4
      · rw [if_neg hi] at h4
        by_cases he : i < n - f
        · rw [if_pos he]
          rw [show i + 1 - (n - f) = 0 by omega] at h4
          exact nx_last (by omega) h4
        · rw [if_neg he]
          refine nx_some ?_
          rw [show i - (n - f) + 1 = i + 1 - (n - f) by omega]
          exact h4
    rw [this]
    exact ⟨rfl, rfl⟩
  · intro a ha
    obtain ⟨h1, h2⟩ := hget _ a ha
    have hlt := getElem?_lt h2
    refine ⟨_, h.at_ _ a h2, .inl ?_⟩
    unfold lkT
    rw [if_pos (by omega)]
    have hm := nx_mem (ps := ps) (if (ps.drop f ++ ps.take f).length - 1 < n - f then f + ((ps.drop f ++ ps.take f).length - 1) else (ps.drop f ++ ps.take f).length - 1 - (n - f)) (by omega)
    refine inL_nat.2 ?_
    revert hm
    generalize nx ps _ = x
    intro hm
    rw [List.mem_append]
    rw [← List.take_append_drop f ps, List.mem_append] at hm
    exact hm.symm

/-! ### parts of a list of places -/
theorem tids_drop (ps : List (Nat × Nat)) (f : Nat) : tids (ps.drop f) = (tids ps).drop (f * 2) := by
  induction ps generalizing f with
  | nil => simp [tids]
  | cons x ps ih =>
    cases f with
    | zero => simp
    | succ f =>
      have e : tids (x :: ps) = .int .i64 x.1 :: .int .i64 x.2 :: tids ps := rfl
      rw [List.drop_succ_cons, ih, e, show (f + 1) * 2 = f * 2 + 1 + 1 by omega, List.drop_succ_cons, List.drop_succ_cons]
theorem tids_take (ps : List (Nat × Nat)) (f : Nat) : tids (ps.take f) = (tids ps).take (f * 2) := by
  induction ps generalizing f with
  | nil => simp [tids]
  | cons x ps ih =>
    cases f with
    | zero => simp [tids]
    | succ f =>
      have e : ∀ y l, tids (y :: l) = .int .i64 y.1 :: .int .i64 y.2 :: tids l := fun _ _ => rfl
      rw [List.take_succ_cons, e, e, ih, show (f + 1) * 2 = f * 2 + 1 + 1 by omega, List.take_succ_cons, List.take_succ_cons]
theorem tids_one (ps : List (Nat × Nat)) : ∀ u, u ∈ tids ps → u.oneCell' = true := by
  intro u hu
  unfold tids at hu
  obtain ⟨q, _, h⟩ := List.mem_flatMap.1 hu
  simp at h
  rcases h with rfl | rfl <;> rfl
theorem Own.cap_le {w : World} {e size n m : Nat} {g cp : Nat} {xs : List Value} (h : Own w e size (.slice (some ⟨g, 0, none⟩) m cp) n xs) : n ≤ cp := by
  rcases h.2 with ⟨he, _⟩ | ⟨g', cap, cur, he, _, _, h1, _⟩
  · cases he
  · injection he with _ _ he
    omega
theorem Src1.dropTids {w : World} {g n cp c f : Nat} {ps : List (Nat × Nat)} (h : Own w 53 2 (.slice (some ⟨g, 0, none⟩) n cp) n (tids ps)) (hn : ps.length = n) : Src1 w 2 (.slice (some ⟨g, f * 2, none⟩) (n - f) c) (n - f) (tids (ps.drop f)) := by
  refine ⟨by rw [tids_length, List.length_drop, hn], tids_one _, .inr ⟨_, _, rfl, fun j u hu => ?_⟩⟩
  rw [tids_drop, List.getElem?_drop] at hu
  have := World.ownsRow.cells h (g := g) rfl _ _ hu
  rw [Go.WideShapes.add_plain] at this ⊢
  simp only [Nat.zero_add] at this
  exact this
theorem Src1.takeTids {w : World} {g n cp c f : Nat} {ps : List (Nat × Nat)} (h : Own w 53 2 (.slice (some ⟨g, 0, none⟩) n cp) n (tids ps)) (hn : ps.length = n) (hf : f ≤ n) : Src1 w 2 (.slice (some ⟨g, 0, none⟩) f c) f (tids (ps.take f)) := by
  refine ⟨by rw [tids_length, List.length_take, hn]; omega, tids_one _, .inr ⟨_, _, rfl, fun j u hu => ?_⟩⟩
  rw [tids_take, List.getElem?_take] at hu
  split at hu
  · exact World.ownsRow.cells h (g := g) rfl _ _ hu
  · cases hu
theorem Own.empty (w : World) (e size : Nat) : Own (w.alloc (.cells #[] e)) e size (.slice (some ⟨w.heap.size, 0, none⟩) 0 0) 0 [] :=
  ⟨by simp, .inr ⟨w.heap.size, 0, #[], rfl, by simp, heap_alloc_new w _, Nat.le_refl _, Nat.zero_le _, by simp, by simp⟩⟩
end Go.Proofs.Yteokjaocnemmlaa
