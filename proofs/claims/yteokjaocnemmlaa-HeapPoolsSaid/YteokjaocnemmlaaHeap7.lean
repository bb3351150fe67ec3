/-
  The walks of package heap: Drop; Insert, Get, Free of whatever place.
-/
import Derived.Test.YteokjaocnemmlaaHeap6
namespace Go.Proofs.Yteokjaocnemmlaa
open Go.RowKit

theorem drop_nil (w : World) : Calls Try.prog 33 #[.pointer none] w fun e w' => e = .returned (.int .i64 0) ∧ w = w' := by
  go_enter Try.func33, Try.ntmps33
  go_wp2
  go_ret
  exact ⟨rfl, rfl⟩

set_option maxRecDepth 100000 in
set_option maxHeartbeats 4000000 in
theorem hdrop {w : World} {pl left : Nat} {G : HG} {H : List PL} (h : HeapAt w pl G H) (hpool : PoolAt w pl left) (h256 : H.length + left ≤ 256) :
    Calls Try.prog 33 #[.pointer (some ⟨G.hb, 0, none⟩)] w fun e w' => e = .returned (.int .i64 H.length) ∧ (∃ rb, w.heap.size ≤ rb ∧ HeapAt w' pl ⟨G.hb, rb, .slice none 0 0, []⟩ []) ∧ PoolAt w' pl (left + H.length) ∧ Chg [pl, G.hb] w w' := by
  have hplf := h.pl_ne hpool
  have hne : G.hb ≠ pl := fun e => hplf (mem_foot.2 (.inl e.symm))
  have c0 := h.c0
  have c1 := h.c1
  have c2 := h.c2
  have f1 := h.free 1
  have f2 := h.free 2
  obtain ⟨A, cp, hv⟩ := h.form
  rw [hv] at c1
  have hhead := h.head
  have pc : w.cell? ⟨pl, 0, none⟩ = some (.int .i64 left) := by rw [cell_of_row w pl 0 _ _ _ hpool]; rfl
  have pf : w.frozen? ⟨pl, 0, none⟩ = false := frozen_of_row w pl 0 _ _ hpool
  obtain ⟨m, hm⟩ : ∃ m, m = H.length := ⟨_, rfl⟩
  obtain ⟨hb, hhb⟩ : ∃ hb, hb = G.hb := ⟨_, rfl⟩
  rw [← hm] at c1 h256 ⊢
  rw [← hhb] at c0 c1 c2 f1 f2 hhead hne ⊢
  have hlt := lt_of_heap hhead
  have hplt := lt_of_heap hpool
  have w1 : IntKind.i64.wrap ((left : Int) + (m : Int)) = (left : Int) + (m : Int) := IntWalk.i64_in _ (by omega)
  have HHD := Lib.hid hhead
  have HPL := Lib.hid hpool
  clear h hpool hplf hv hm hhb hhead
  go_enter Try.func33, Try.ntmps33
  go_wp2_with (first | (go_at_call 13; refine (new_any _).mono ?_; rintro e w9 ⟨rfl, rfl⟩))
  go_ret
  have a1 := heap_setCell_same w pl 0 _ 99 (.int .i64 ((left : Int) + (m : Int))) HPL.out
  have b1 := heap_setCell_ne (p := ⟨pl, 0, none⟩) (u := .int .i64 ((left : Int) + (m : Int))) HHD.out hne
  have b2 := heap_setCell_same _ hb 1 _ 102 (.slice none 0 0) b1
  have b3 := heap_setCell_same _ hb 2 _ 102 (.pointer (some ⟨w.heap.size, 0, none⟩)) b2
  have a3 := heap_setCell_ne (p := ⟨hb, 2, none⟩) (u := .pointer (some ⟨w.heap.size, 0, none⟩)) (heap_setCell_ne (p := ⟨hb, 1, none⟩) (u := .slice none 0 0) a1 hne.symm) hne.symm
  have hC := ((((Chg.refl [pl, hb] w).setCell (p := ⟨pl, 0, none⟩) (.inl (by simp)) (.int .i64 ((left : Int) + (m : Int)))).setCell (p := ⟨hb, 1, none⟩) (.inl (by simp)) (.slice none 0 0)).setCell (p := ⟨hb, 2, none⟩) (.inl (by simp)) (.pointer (some ⟨w.heap.size, 0, none⟩)))
  have hsz := hC.size
  have hs2 : (((w.setCell ⟨pl, 0, none⟩ (.int .i64 ((left : Int) + (m : Int)))).setCell ⟨hb, 1, none⟩ (.slice none 0 0)).setCell ⟨hb, 2, none⟩ (.pointer (some ⟨w.heap.size, 0, none⟩))).heap.size = w.heap.size := by simp [World.setCell]
  refine ⟨rfl, ⟨w.heap.size, Nat.le_refl _, ⟨?_, ⟨rfl, .inl ⟨rfl, rfl⟩⟩, by simp, ?_, by simp⟩⟩, ?_, hC.alloc _⟩
  · exact (Below.heap_alloc _ _ _ (Nat.lt_of_lt_of_le hlt hsz)).trans b3
  · have := IsMap.new (((w.setCell ⟨pl, 0, none⟩ (.int .i64 ((left : Int) + (m : Int)))).setCell ⟨hb, 1, none⟩ (.slice none 0 0)).setCell ⟨hb, 2, none⟩ (.pointer (some ⟨w.heap.size, 0, none⟩)))
    rw [hs2] at this
    exact this
  · exact (Below.heap_alloc _ _ _ (Nat.lt_of_lt_of_le hplt hsz)).trans a3

/-! ### Get, Free, of whatever place -/
section
variable {w : World} {pl : Nat} {G : HG} {H : List PL}
theorem hget_ok (h : HeapAt w pl G H) {i s : Nat} {L : PL} {t : Tup} (hL : H[i]? = some L) (hs : L[s]? = some (some t)) :
    Calls Try.prog 42 #[.pointer (some ⟨G.hb, 0, none⟩), .agg #[.int .i64 i, .int .i64 s]] w fun e w' => GotOf w w' t e := by
  obtain ⟨b, hb, hp⟩ := h.ptr_of hL
  refine get_heap_of _ (ptrV b) i s t w (fun w0 hC => Lib.hid (page_some (h.below hC (by simp)) hb)) (fun w0 hC => Lib.hid ?_)
  obtain ⟨f, fr, st, h1, h2⟩ := hp.chg hC (by simp)
  exact pget_used h2 h1 hs
theorem hget_cases (H : List PL) (p s : Int) : hget H p s = none → (p < 0 ∨ (H.length : Int) ≤ p) ∨ ∃ (i : Nat) (L : PL), p = i ∧ H[i]? = some L ∧ slotOf L s = none := by
  intro hn
  unfold hget pageOf at hn
  by_cases h0 : p < 0
  · exact .inl (.inl h0)
  · rw [if_neg h0] at hn
    obtain ⟨i, rfl⟩ := Int.eq_ofNat_of_zero_le (show 0 ≤ p by omega)
    by_cases h1 : i < H.length
    · rw [show ((i : Int)).toNat = i by omega, List.getElem?_eq_getElem h1] at hn
      exact .inr ⟨i, _, rfl, List.getElem?_eq_getElem h1, hn⟩
    · exact .inl (.inr (by omega))
theorem slotOf_none {L : PL} {s : Int} (h : slotOf L s = none) : s < 0 ∨ ∀ t, L[s.toNat]? ≠ some (some t) := by
  unfold slotOf at h
  by_cases h0 : s < 0
  · exact .inl h0
  · rw [if_neg h0] at h
    refine .inr fun t ht => ?_
    rw [ht] at h
    cases h
theorem hget_no (h : HeapAt w pl G H) {p s : Int} (hn : hget H p s = none) :
    Calls Try.prog 42 #[.pointer (some ⟨G.hb, 0, none⟩), .agg #[.int .i64 p, .int .i64 s]] w fun e w' => GotNone w w' e := by
  rcases hget_cases H p s hn with h1 | ⟨i, L, rfl, hL, hs⟩
  · exact get_heap_none _ (.pointer none) p s w (fun w0 hC => Lib.hid (page_none (h.below hC (by simp)) p h1)) (fun w0 hC => Lib.hid (pget_nil s))
  · obtain ⟨b, hb, hp⟩ := h.ptr_of hL
    refine get_heap_none _ (ptrV b) i s w (fun w0 hC => Lib.hid (page_some (h.below hC (by simp)) hb)) (fun w0 hC => Lib.hid ?_)
    obtain ⟨f, fr, st, h1, h2⟩ := hp.chg hC (by simp)
    exact pget_none h2 h1 s (slotOf_none hs)
theorem hfree_no (h : HeapAt w pl G H) {p s : Int} (hn : hget H p s = none) :
    Calls Try.prog 31 #[.pointer (some ⟨G.hb, 0, none⟩), .agg #[.int .i64 p, .int .i64 s]] w fun e w' => e = .returned (.int .i64 15) ∧ Chg [] w w' := by
  rcases hget_cases H p s hn with h1 | ⟨i, L, rfl, hL, hs⟩
  · exact hfree_val _ (.pointer none) p s w (fun w0 hC => Lib.hid (page_none (h.below hC (by simp)) p h1)) (fun w0 hC => Lib.hid (pfree_none _ _ w0 (Lib.hid ((bytesOf_nil s w0).mono fun _ _ ⟨he, hw⟩ => ⟨he, 0, hw.symm⟩))))
  · obtain ⟨b, hb, hp⟩ := h.ptr_of hL
    exact hfree_val _ (ptrV b) i s w (fun w0 hC => Lib.hid (page_some (h.below hC (by simp)) hb)) (fun w0 hC => Lib.hid (pfree_no hp hs w0 hC))
end

/-! ### Insert, whatever there is room for -/
/-- What one more does to a heap's pages, and to the pool. -/
inductive InsR (H : List PL) (t : Tup) : Nat → Int → Int → Int → List PL → Nat → Prop
  | old (left i : Nat) (L : PL) (hi : H[i]? = some L) (hr : (t.data.length : Int) ≤ room L) : InsR H t left 0 i (freeSlot L) (H.set i (ins L t)) left
  | full (hr : ∀ (i : Nat) (L : PL), H[i]? = some L → room L < (t.data.length : Int)) : InsR H t 0 12 0 0 H 0
  | new (left : Nat) (hr : ∀ (i : Nat) (L : PL), H[i]? = some L → room L < (t.data.length : Int)) : InsR H t (left + 1) 0 H.length 0 (H ++ [ins [] t]) left
theorem find_room {H : List PL} {n i : Nat} (h : findAt (H.map room) n = some i) : ∃ L, H[i]? = some L ∧ (n : Int) ≤ room L ∧ ∀ j L', j < i → H[j]? = some L' → room L' < n := by
  unfold findAt at h
  rw [List.findIdx?_eq_some_iff_getElem] at h
  obtain ⟨hi, h1, h2⟩ := h
  rw [List.length_map] at hi
  refine ⟨H[i], List.getElem?_eq_getElem hi, ?_, ?_⟩
  · simp only [List.getElem_map, decide_eq_true_eq] at h1
    omega
  · intro j L' hj hL'
    have h3 := h2 j hj
    have hjl := getElem?_lt hL'
    rw [List.getElem?_eq_getElem hjl] at hL'
    injection hL' with hL'
    simp only [List.getElem_map, hL', decide_eq_true_eq] at h3
    omega
theorem find_noroom {H : List PL} {n : Nat} (h : findAt (H.map room) n = none) : ∀ (i : Nat) (L : PL), H[i]? = some L → room L < (n : Int) := by
  unfold findAt at h
  rw [List.findIdx?_eq_none_iff] at h
  intro i L hL
  have := h (room L) (List.mem_map.2 ⟨L, List.mem_of_getElem? hL, rfl⟩)
  simp at this
  omega
theorem hinsert_any {w : World} {pl left : Nat} {G : HG} {H : List PL} (h : HeapAt w pl G H) (hpool : PoolAt w pl left) (h256 : H.length + left ≤ 256) (t : Tup) (A : Option Addr) (n c : Nat) (hn : n = t.data.length) (ho : t.Ok) (hsd : ∀ k, (Value.slice A n c).ownBlock = some k → k ∉ pl :: G.foot) (hsrc : Src1 w 1 (.slice A n c) n (bvals t.data)) :
    Calls Try.prog 24 #[.pointer (some ⟨G.hb, 0, none⟩), .agg #[.int .u64 t.row, .int .u64 t.xmin, .int .u64 t.xmax, .int .i64 t.np, .int .i64 t.ns, .slice A n c]] w fun e w' =>
      ∃ code p s H' left' G', e = .returned (.tuple #[V53 p s, .int .i64 code]) ∧ InsR H t left code p s H' left' ∧ G'.hb = G.hb ∧ HeapAt w' pl G' H' ∧ PoolAt w' pl left' ∧ (∀ x, x ∈ G'.foot → x ∈ G.foot ∨ w.heap.size ≤ x) ∧ Chg (pl :: G.foot) w w' := by
  have hplf := h.pl_ne hpool
  cases hf : findAt (H.map room) n with
  | some i =>
    obtain ⟨L, hL, hr, _⟩ := find_room hf
    refine (hinsert_old h t A n c i L hn ho hsrc (by unfold findOk; rw [hf]; rfl) (by unfold findPos; rw [hf]; rfl) hL hr).mono ?_
    rintro e w' ⟨rfl, h1, h2⟩
    exact ⟨0, i, freeSlot L, _, left, G, rfl, .old left i L hL (by rw [← hn]; exact hr), rfl, h1, hpool.chg h2 hplf, fun x hx => .inl hx, h2.mono (fun x hx => List.mem_cons_of_mem _ hx)⟩
  | none =>
    have hr := find_noroom hf
    rw [hn] at hr
    cases left with
    | zero =>
      refine (hinsert_full h hpool t A n c _ hn ho hsrc (by unfold findOk; rw [hf]; rfl) rfl).mono ?_
      rintro e w' ⟨rfl, h1⟩
      exact ⟨12, 0, 0, H, 0, G, rfl, .full hr, rfl, h.chg h1 (by simp), hpool.chg h1 (by simp), fun x hx => .inl hx, h1.mono (by simp)⟩
    | succ left =>
      refine (hinsert_new h hpool t A n c _ hsd hn ho hsrc (by unfold findOk; rw [hf]; rfl) rfl h256).mono ?_
      rintro e w' ⟨rfl, ⟨G', h1, h2, h3⟩, h4, h5⟩
      exact ⟨0, H.length, 0, _, left, G', rfl, .new left hr, h1, h2, h4, h3, h5⟩
end Go.Proofs.Yteokjaocnemmlaa
