/-
  The walks of package heap: Stamp.
-/
import Derived.Test.YteokjaocnemmlaaHeap9
namespace Go.Proofs.Yteokjaocnemmlaa
open Go.RowKit

/-! ### a page -/
theorem pstamp_at {w : World} {b : Nat} {L : PL} (h : PageAt w b L) {s : Nat} {t : Tup} (hs : L[s]? = some (some t)) {xmax np ns : Int} (h0 : 0 ≤ xmax) (h1 : xmax ≤ 1099511627776) (hf : farB np ns = false) :
    Calls Try.prog 47 #[.pointer (some ⟨b, 0, none⟩), .int .i64 s, .int .u64 xmax, .agg #[.int .i64 np, .int .i64 ns]] w fun e w' => e = .returned (.int .i64 0) ∧ PageAt w' b (L.set s (some (t.stamp xmax np ns))) ∧ Chg [b] w w' := by
  obtain ⟨f, fr, st, hl, hp⟩ := h
  have hz := t.size_lo
  obtain ⟨_, hh⟩ := hp.lies s t hs
  refine (stamp_ok b (fr s) t.size (512 - fr s) f s xmax np ns w h1 hf hl hh hz (by omega) (fun w0 hC => Lib.hid (pbytes_used hp (hC.heap hl (by simp)) hs))).mono ?_
  rintro e w' ⟨rfl, h3, h4⟩
  exact ⟨rfl, ⟨_, fr, st, h3, hp.stamp hs h0 h1 hf⟩, h4⟩
theorem pstamp_no {w : World} {b : Nat} {L : PL} (h : PageAt w b L) {s : Int} (hs : slotOf L s = none) {xmax np ns : Int} (h1 : xmax ≤ 1099511627776) (hf : farB np ns = false) :
    Calls Try.prog 47 #[.pointer (some ⟨b, 0, none⟩), .int .i64 s, .int .u64 xmax, .agg #[.int .i64 np, .int .i64 ns]] w fun e w' => e = .returned (.int .i64 15) ∧ Chg [] w w' := by
  obtain ⟨f, fr, st, hl, hp⟩ := h
  exact stamp_none b s xmax np ns w h1 hf (fun w0 hC => Lib.hid (pbytes_none hp (hC.heap hl (by simp)) s (slotOf_none hs)))
theorem pstamp_bad {w : World} {b : Nat} {L : PL} (h : PageAt w b L) {s xmax np ns : Int} (hx : 1099511627776 < xmax ∨ farB np ns = true) :
    Calls Try.prog 47 #[.pointer (some ⟨b, 0, none⟩), .int .i64 s, .int .u64 xmax, .agg #[.int .i64 np, .int .i64 ns]] w fun e w' => e = .returned (.int .i64 3) ∧ Chg [] w w' := by
  obtain ⟨f, fr, st, hl, hp⟩ := h
  cases hs : slotOf L s with
  | none => exact stamp_bad b s xmax np ns _ w hx (fun w0 hC => Lib.hid (pbytes_none hp (hC.heap hl (by simp)) s (slotOf_none hs)))
  | some t =>
    unfold slotOf at hs
    by_cases h0 : s < 0
    · rw [if_pos h0] at hs; cases hs
    · rw [if_neg h0] at hs
      obtain ⟨k, rfl⟩ := Int.eq_ofNat_of_zero_le (show 0 ≤ s by omega)
      have hs' : L[k]? = some (some t) := by
        rw [show ((k : Int)).toNat = k by omega] at hs
        exact sget_some.1 hs
      exact stamp_bad b k xmax np ns _ w hx (fun w0 hC => Lib.hid (pbytes_used hp (hC.heap hl (by simp)) hs'))

theorem pnew_ex (w : World) : Calls Try.prog 43 #[] w fun e w' => ∃ b, e = .returned (.pointer (some ⟨b, 0, none⟩)) ∧ PageAt w' b [] ∧ Chg [] w w' := by
  refine (pnew_any w).mono ?_
  rintro e w' ⟨rfl, h1, h2, _⟩
  exact ⟨_, rfl, ⟨_, _, _, h1, PG.new⟩, h2⟩

/-! ### plain -/
theorem freeSlot_set {L : PL} {s : Nat} {t t' : Tup} (hs : L[s]? = some (some t)) : freeSlot (L.set s (some t')) = freeSlot L := by
  induction L generalizing s with
  | nil => simp at hs
  | cons x L ih =>
    unfold freeSlot at ih ⊢
    cases s with
    | zero =>
      simp at hs
      subst hs
      simp [List.findIdx_cons]
    | succ s =>
      rw [List.set_cons_succ, List.findIdx_cons, List.findIdx_cons, ih (by simpa using hs)]
theorem room_stamp {L : PL} {s : Nat} {t t' : Tup} (hs : L[s]? = some (some t)) (hd : t'.data.length = t.data.length) : room (L.set s (some t')) = room L := by
  have hl := getElem?_lt hs
  have h1 := total_set L s (some t') hl
  rw [List.getElem?_eq_getElem hl] at hs
  injection hs with hs'
  have h2 : slotSize L[s] = slotSize (some t') := by rw [hs']; simp [slotSize, Tup.size, hd]
  have h3 : total (L.set s (some t')) = total L := by omega
  unfold room
  rw [List.length_set, h3, freeSlot_set (t := t) (by rw [List.getElem?_eq_getElem hl, hs'])]
theorem rooms_stamp {H : List PL} {i s : Nat} {L : PL} {t t' : Tup} (hL : H[i]? = some L) (hs : L[s]? = some (some t)) (hd : t'.data.length = t.data.length) : (H.set i (L.set s (some t'))).map room = H.map room := by
  rw [List.map_set, room_stamp hs hd]
  apply List.ext_getElem?
  intro j
  rw [List.getElem?_set, List.length_map]
  split
  · rename_i h
    subst h
    rw [if_pos (getElem?_lt hL), List.getElem?_map, hL]; rfl
  · rfl

/-! ### a heap -/
theorem hstamp_nil (pg s xmax np ns : Int) (w : World) : Calls Try.prog 25 #[.pointer none, .agg #[.int .i64 pg, .int .i64 s], .int .u64 xmax, .agg #[.int .i64 np, .int .i64 ns]] w fun e w' => e = .returned (.int .i64 15) ∧ Chg [] w w' := by
  go_enter Try.func25, Try.ntmps25
  go_wp2
  go_ret
  exact ⟨rfl, ((Chg.refl [] w).alloc _).alloc _⟩

def StampPost (code : Int) (P : World → World → Prop) (w : World) (e : Ending) (w' : World) : Prop := e = .returned (.int .i64 code) ∧ ∃ w0, Chg [] w w0 ∧ P w0 w'
set_option maxRecDepth 100000 in
set_option maxHeartbeats 4000000 in
theorem hstamp_val (hb b : Nat) (pg s xmax np ns code : Int) (P : World → World → Prop) (w : World)
    (hp : ∀ w0, Chg [] w w0 → Hid (Calls Try.prog 46 #[.pointer (some ⟨hb, 0, none⟩), .int .i64 pg] w0 fun e w' => e = .returned (.pointer (some ⟨b, 0, none⟩)) ∧ w0 = w'))
    (hs : ∀ w0, Chg [] w w0 → Hid (Calls Try.prog 47 #[.pointer (some ⟨b, 0, none⟩), .int .i64 s, .int .u64 xmax, .agg #[.int .i64 np, .int .i64 ns]] w0 fun e w' => e = .returned (.int .i64 code) ∧ P w0 w')) :
    Calls Try.prog 25 #[.pointer (some ⟨hb, 0, none⟩), .agg #[.int .i64 pg, .int .i64 s], .int .u64 xmax, .agg #[.int .i64 np, .int .i64 ns]] w fun e w' => StampPost code P w e w' := by
  have HPG := Lib.hid hp
  have HST := Lib.hid hs
  clear hp hs
  go_enter Try.func25, Try.ntmps25
  go_wp2_with fail
  refine (HPG.out _ (((Chg.refl [] w).alloc _).alloc _)).out.mono ?_
  rintro e w1 ⟨rfl, rfl⟩
  go_wp2_with fail
  refine (HST.out _ (((Chg.refl [] w).alloc _).alloc _)).out.mono ?_
  rintro e w2 ⟨rfl, hP⟩
  have HP := Lib.hid hP
  clear hP
  go_wp2
  go_ret
  exact ⟨rfl, _, ((Chg.refl [] w).alloc _).alloc _, HP.out⟩
set_option maxRecDepth 100000 in
set_option maxHeartbeats 4000000 in
theorem hstamp_new (hb : Nat) (pg s xmax np ns code : Int) (w : World)
    (hp : ∀ w0, Chg [] w w0 → Hid (Calls Try.prog 46 #[.pointer (some ⟨hb, 0, none⟩), .int .i64 pg] w0 fun e w' => e = .returned (.pointer none) ∧ w0 = w'))
    (hs : ∀ w0 b, PageAt w0 b [] → Hid (Calls Try.prog 47 #[.pointer (some ⟨b, 0, none⟩), .int .i64 s, .int .u64 xmax, .agg #[.int .i64 np, .int .i64 ns]] w0 fun e w' => e = .returned (.int .i64 code) ∧ Chg [] w0 w')) :
    Calls Try.prog 25 #[.pointer (some ⟨hb, 0, none⟩), .agg #[.int .i64 pg, .int .i64 s], .int .u64 xmax, .agg #[.int .i64 np, .int .i64 ns]] w fun e w' => e = .returned (.int .i64 code) ∧ Chg [] w w' := by
  have HPG := Lib.hid hp
  have HST := Lib.hid hs
  clear hp hs
  go_enter Try.func25, Try.ntmps25
  go_wp2_with fail
  refine (HPG.out _ (((Chg.refl [] w).alloc _).alloc _)).out.mono ?_
  rintro e w1 ⟨rfl, rfl⟩
  go_wp2_with fail
  refine (pnew_ex _).mono ?_
  rintro e w2 ⟨b, rfl, hpa, hC⟩
  have c0 := hC.cell (p := ⟨w.heap.size, 1, none⟩) (u := .int .i64 s) (by go_simp) (by simp)
  have c1 := hC.cell (p := ⟨w.heap.size + 1, 0, none⟩) (u := .int .i64 np) (by go_simp) (by simp)
  have c2 := hC.cell (p := ⟨w.heap.size + 1, 1, none⟩) (u := .int .i64 ns) (by go_simp) (by simp)
  have HPA := Lib.hid hpa
  have HC := Lib.hid hC
  clear hC hpa
  go_wp2_with fail
  refine (HST.out _ _ HPA.out).out.mono ?_
  rintro e w3 ⟨rfl, hC3⟩
  have HC3 := Lib.hid hC3
  clear hC3
  go_wp2
  go_ret
  exact ⟨rfl, ((((Chg.refl [] w).alloc _).alloc _).trans HC.out).trans HC3.out⟩

section
variable {w : World} {pl : Nat} {G : HG} {H : List PL}
/-- Stamp of a version that is there. -/
theorem hstamp_ok (h : HeapAt w pl G H) {i s : Nat} {L : PL} {t : Tup} (hL : H[i]? = some L) (hs : L[s]? = some (some t)) {xmax np ns : Int} (h0 : 0 ≤ xmax) (h1 : xmax ≤ 1099511627776) (hf : farB np ns = false) :
    Calls Try.prog 25 #[.pointer (some ⟨G.hb, 0, none⟩), .agg #[.int .i64 i, .int .i64 s], .int .u64 xmax, .agg #[.int .i64 np, .int .i64 ns]] w fun e w' =>
      e = .returned (.int .i64 0) ∧ HeapAt w' pl G (H.set i (L.set s (some (t.stamp xmax np ns)))) ∧ Chg G.foot w w' := by
  obtain ⟨b, hb, hp⟩ := h.ptr_of hL
  refine (hstamp_val G.hb b i s xmax np ns 0 (fun w0 w' => PageAt w' b (L.set s (some (t.stamp xmax np ns))) ∧ Chg [b] w0 w') w (fun w0 hC => Lib.hid (page_some (h.below hC (by simp)) hb)) (fun w0 hC => Lib.hid (pstamp_at (hp.chg hC (by simp)) hs h0 h1 hf))).mono ?_
  rintro e w' ⟨rfl, w0, hC0, hp', hC1⟩
  have hbm := List.mem_of_getElem? hb
  have hC : Chg [b] w w' := (hC0.mono (by simp)).trans hC1
  have hne := h.ptr_ne hbm
  refine ⟨rfl, h.turned hb hC (fun x _ hx => by simp at hx; exact .inl hx) hp' ?_, hC.mono (fun x hx => by simp at hx; subst hx; exact mem_foot.2 (.inr (.inr (.inr hbm))))⟩
  rw [rooms_stamp (t' := t.stamp xmax np ns) hL hs rfl]
  exact h.rooms.chg hC (by simp; exact fun e => hne.2.1 e.symm)
theorem hstamp_bad (h : HeapAt w pl G H) (p s : Int) {xmax np ns : Int} (hx : 1099511627776 < xmax ∨ farB np ns = true) :
    Calls Try.prog 25 #[.pointer (some ⟨G.hb, 0, none⟩), .agg #[.int .i64 p, .int .i64 s], .int .u64 xmax, .agg #[.int .i64 np, .int .i64 ns]] w fun e w' => e = .returned (.int .i64 3) ∧ Chg [] w w' := by
  by_cases hp : p < 0 ∨ (H.length : Int) ≤ p
  · exact hstamp_new G.hb p s xmax np ns 3 w (fun w0 hC => Lib.hid (page_none (h.below hC (by simp)) p hp)) (fun w0 b hb => Lib.hid (pstamp_bad hb hx))
  · obtain ⟨i, rfl⟩ := Int.eq_ofNat_of_zero_le (show 0 ≤ p by omega)
    obtain ⟨b, hb, hpg⟩ := h.ptr_of (List.getElem?_eq_getElem (show i < H.length by omega))
    refine (hstamp_val G.hb b i s xmax np ns 3 (fun w0 w' => Chg [] w0 w') w (fun w0 hC => Lib.hid (page_some (h.below hC (by simp)) hb)) (fun w0 hC => Lib.hid (pstamp_bad (hpg.chg hC (by simp)) hx))).mono ?_
    rintro e w' ⟨rfl, w0, hC0, hC1⟩
    exact ⟨rfl, hC0.trans hC1⟩
theorem hstamp_no (h : HeapAt w pl G H) {p s : Int} (hn : hget H p s = none) {xmax np ns : Int} (h1 : xmax ≤ 1099511627776) (hf : farB np ns = false) :
    Calls Try.prog 25 #[.pointer (some ⟨G.hb, 0, none⟩), .agg #[.int .i64 p, .int .i64 s], .int .u64 xmax, .agg #[.int .i64 np, .int .i64 ns]] w fun e w' => e = .returned (.int .i64 15) ∧ Chg [] w w' := by
  rcases hget_cases H p s hn with hp | ⟨i, L, rfl, hL, hs⟩
  · exact hstamp_new G.hb p s xmax np ns 15 w (fun w0 hC => Lib.hid (page_none (h.below hC (by simp)) p hp)) (fun w0 b hb => Lib.hid (pstamp_no hb (by unfold slotOf; split <;> rfl) h1 hf))
  · obtain ⟨b, hb, hpg⟩ := h.ptr_of hL
    refine (hstamp_val G.hb b i s xmax np ns 15 (fun w0 w' => Chg [] w0 w') w (fun w0 hC => Lib.hid (page_some (h.below hC (by simp)) hb)) (fun w0 hC => Lib.hid (pstamp_no (hpg.chg hC (by simp)) hs h1 hf))).mono ?_
    rintro e w' ⟨rfl, w0, hC0, hC1⟩
    exact ⟨rfl, hC0.trans hC1⟩
end
end Go.Proofs.Yteokjaocnemmlaa
