/-
  The walks of lapidaryref06: Set, Find, Get, over a list of rooms.
-/
import Derived.Test.YteokjaocnemmlaaRoom
namespace Go.Proofs.Yteokjaocnemmlaa
open Go.RowKit
theorem Try.info3 : (Try.prog.info? 3).map (fun i => (i.zero, i.size, i.bytes)) = some (some (.int .i64 0), 1, 8) := by kernel_rfl
theorem El33 : ElTy Try.prog 33 3 1 8 := by
  obtain ⟨i, hi, hz, hs, hb⟩ := info_parts Try.info3
  exact ⟨i, _, Try.underlying33, hi, hz, hs, hb, rfl, by decide⟩

def nums (L : List Int) : List Value := L.map (Value.int .i64)
theorem nums_one (L : List Int) : ∀ u, u ∈ nums L → u.oneCell' = true := by
  intro u hu
  obtain ⟨x, _, rfl⟩ := List.mem_map.1 hu
  rfl
/-- A map of the reference's, in block b; its slice is v. -/
def IsRef (w : World) (b : Nat) (v : Value) (L : List Int) : Prop := w.heap[b]? = some (.cells #[v] 35 (0, 0)) ∧ Own w 3 1 v L.length (nums L)
/-- What a step leaves: the map anew; it and its row alone are turned. -/
def RPost (w w' : World) (b : Nat) (v : Value) (L' : List Int) : Prop := ∃ v', IsRef w' b v' L' ∧ Chg (b :: v.ownBlock.toList) w w' ∧ (∀ k, v'.ownBlock = some k → v.ownBlock = some k ∨ w.heap.size ≤ k)

theorem IsRef.lt {w : World} {b : Nat} {v : Value} {L : List Int} (h : IsRef w b v L) : b < w.heap.size := lt_of_heap h.1
theorem one_cell {w : World} {b : Nat} {v : Value} {t : TypeId} {fr : Nat × Nat} (h : w.heap[b]? = some (.cells #[v] t fr)) : w.cell? ⟨b, 0, none⟩ = some v := by
  rw [cell_of_row w b 0 _ _ _ h]; rfl
theorem one_free {w : World} {b : Nat} {cs : Array Value} {t : TypeId} (h : w.heap[b]? = some (.cells cs t (0, 0))) (i : Nat) : w.frozen? ⟨b, i, none⟩ = false := frozen_of_row w b i _ _ h
theorem one_set {w : World} {b : Nat} {v : Value} {t : TypeId} (h : w.heap[b]? = some (.cells #[v] t (0, 0))) (u : Value) : (w.setCell ⟨b, 0, none⟩ u).heap[b]? = some (.cells #[u] t (0, 0)) := by
  rw [heap_setCell_same w b 0 _ _ _ h]; rfl

/-- An owned row's cell. -/
theorem Own.at_ {w : World} {e n : Nat} {A : Option Addr} {c : Nat} {xs : List Value} (h : Own w e 1 (.slice A n c) n xs) {k : Nat} (hk : k < n) :
    ∃ g, A = some ⟨g, 0, none⟩ ∧ g < w.heap.size ∧ (∀ j u, xs[j]? = some u → w.cell? ⟨g, j, none⟩ = some u) ∧ (∀ j, w.frozen? ⟨g, j, none⟩ = false) := by
  have h2 := h.2
  rcases h2 with ⟨h3, h4⟩ | ⟨g, cap, cur, hv, _, hg, r⟩
  · omega
  · injection hv with hv
    subst hv
    refine ⟨g, rfl, lt_of_heap hg, fun j u hu => ?_, fun j => frozen_of_row w g j _ _ hg⟩
    have := h.cells (g := g) rfl j u hu
    have hadd : (⟨g, 0, none⟩ : Addr).add j = ⟨g, j, none⟩ := by unfold Addr.add; split <;> simp_all
    rwa [hadd] at this
/-- A store into an owned row. -/
theorem Own.store {w : World} {e n : Nat} {g c : Nat} {xs : List Value} (h : Own w e 1 (.slice (some ⟨g, 0, none⟩) n c) n xs) (k : Nat) (u : Value) : Own (w.setCell ⟨g, k, none⟩ u) e 1 (.slice (some ⟨g, 0, none⟩) n c) n (xs.set k u) := by
  refine ⟨by simpa using h.1, ?_⟩
  rcases h.2 with ⟨h3, h4⟩ | ⟨g', cap, cur, hv, hb, hg, r1, r2, r3, r4⟩
  · cases h3
  · have hv' := hv
    injection hv with hv _ hc
    injection hv with hv
    injection hv with hv
    subst hv
    refine .inr ⟨g, cap, cur.setIfInBounds k u, hv', hb, heap_setCell_same w g k _ _ u hg, r1, r2, by simpa using r3, ?_⟩
    rw [← r4]
    simp [List.take_set]

theorem getD_nums (L : List Int) (n : Nat) (h : n < L.length) : (nums L)[n]? = some (.int .i64 (L.getD n (-1))) := by
  simp [nums, h]
theorem set_nums (L : List Int) (n : Nat) (x : Int) : (nums L).set n (.int .i64 x) = nums (L.set n x) := by
  simp [nums, List.map_set]

set_option maxRecDepth 100000 in
theorem rset_nil (page room : Int) (w : World) :
    Calls Try.prog 17 #[.pointer none, .int .i64 page, .int .i64 room] w fun e w' => e = .returned (.int .i64 15) ∧ w = w' := by
  go_enter Try.func17, Try.ntmps17
  go_wp2
  go_ret
  exact ⟨rfl, rfl⟩
set_option maxRecDepth 100000 in
set_option maxHeartbeats 1000000 in
theorem rset_bad (b : Nat) (page room : Int) (w : World) (h : page < 0 ∨ 256 ≤ page) :
    Calls Try.prog 17 #[.pointer (some ⟨b, 0, none⟩), .int .i64 page, .int .i64 room] w fun e w' => e = .returned (.int .i64 1) ∧ w = w' := by
  by_cases h1 : page < 0
  · go_enter Try.func17, Try.ntmps17
    go_wp2
    go_ret
    exact ⟨rfl, rfl⟩
  · have h2 : 256 ≤ page := by omega
    clear h
    go_enter Try.func17, Try.ntmps17
    go_wp2
    go_ret
    exact ⟨rfl, rfl⟩
set_option maxRecDepth 100000 in
set_option maxHeartbeats 1000000 in
theorem rset_form (b n c : Nat) (A : Option Addr) (page room : Int) (w : World) (hb : w.cell? ⟨b, 0, none⟩ = some (.slice A n c)) (h0 : (n : Int) < page) (h1 : page < 256) :
    Calls Try.prog 17 #[.pointer (some ⟨b, 0, none⟩), .int .i64 page, .int .i64 room] w fun e w' => e = .returned (.int .i64 3) ∧ w = w' := by
  have h2 : 0 ≤ page := by omega
  go_enter Try.func17, Try.ntmps17
  go_wp2
  go_ret
  exact ⟨rfl, rfl⟩

/-- The law's own form of the clamp, three ways. -/
theorem clamp_lo {r : Int} (h : r < -1) : clamp r = -1 := by unfold clamp; omega
theorem clamp_hi {r : Int} (h : 512 < r) : clamp r = 512 := by unfold clamp; omega
theorem clamp_mid {r : Int} (h : ¬ r < -1) (h2 : ¬ 512 < r) : clamp r = r := by unfold clamp; omega

set_option maxRecDepth 100000 in
set_option maxHeartbeats 2000000 in
theorem rset_set (b : Nat) (v : Value) (L : List Int) (n : Nat) (room : Int) (w : World) (hb : IsRef w b v L) (hn : n < L.length) (hl : L.length ≤ 256) :
    Calls Try.prog 17 #[.pointer (some ⟨b, 0, none⟩), .int .i64 n, .int .i64 room] w fun e w' => e = .returned (.int .i64 0) ∧ RPost w w' b v (L.set n (clamp room)) := by
  obtain ⟨hc, ho⟩ := hb
  obtain ⟨A, c, rfl⟩ := ho.form'
  obtain ⟨g, rfl, hg, hgc, hgf⟩ := ho.at_ hn
  have hcell := one_cell hc
  have hgn := hgc n _ (getD_nums L n hn)
  have hgfn := hgf n
  clear hgc hgf
  obtain ⟨m, hm⟩ : ∃ m, m = L.length := ⟨_, rfl⟩
  have HL := Lib.hid hm
  rw [← hm] at hcell hn hl
  have d1 : decide ((n : Int) < 0) = false := by simp
  have d2 : decide ((255 : Int) < n) = false := by simp; omega
  have d3 : decide (m < n) = false := by simp; omega
  have d4 : ((n : Int) == (m : Int)) = false := by simp; omega
  have fin : ∀ x : Int, clamp room = x → RPost w (w.setCell ⟨g, n, none⟩ (.int .i64 x)) b (.slice (some ⟨g, 0, none⟩) L.length c) (L.set n (clamp room)) := by
    intro x hx
    subst hx
    have hgb : g ≠ b := fun e => by subst e; exact ho.ne hc (by decide) rfl
    refine ⟨_, ⟨?_, ?_⟩, (Chg.refl _ _).setCell (by simp [Value.ownBlock]) _, fun k hk => .inl hk⟩
    · rw [heap_setCell_ne hc (by exact hgb.symm)]
    · have := ho.store n (.int .i64 (clamp room))
      rw [set_nums] at this
      simpa using this
  have FIN := Lib.hid fin
  clear fin ho hc hm
  by_cases r1 : room < -1
  · have hx := Lib.hid (clamp_lo r1)
    have d5 : decide (room < -1) = true := by simpa using r1
    go_enter Try.func17, Try.ntmps17
    go_wp2
    go_ret
    exact ⟨rfl, FIN.out _ hx.out⟩
  · by_cases r2 : 512 < room
    · have hx := Lib.hid (clamp_hi r2)
      go_enter Try.func17, Try.ntmps17
      go_wp2
      go_ret
      exact ⟨rfl, FIN.out _ hx.out⟩
    · have hx := Lib.hid (clamp_mid r1 r2)
      go_enter Try.func17, Try.ntmps17
      go_wp2
      go_ret
      exact ⟨rfl, FIN.out _ hx.out⟩

/-- One page more: the two appends, at whatever room the clamp has left. -/
theorem rset_app_end (b : Nat) (v : Value) (L : List Int) (x : Int) (w w1 w2 : World) (v1 v2 : Value) (hb : IsRef w b v L)
    (h1 : App (w.alloc (.cells #[] 3)) w1 3 1 (.slice (some ⟨w.heap.size, 0, none⟩) 0 0) v1 L.length (nums L))
    (h2 : App (w1.alloc (.cells #[.int .i64 x] 3)) w2 3 1 v1 v2 (L.length + 1) (nums L ++ [.int .i64 x])) :
    RPost w (w2.setCell ⟨b, 0, none⟩ v2) b v (L ++ [x]) := by
  obtain ⟨hc, ho⟩ := hb
  obtain ⟨o1, c1, f1⟩ := h1
  obtain ⟨o2, c2, f2⟩ := h2
  have hlt := lt_of_heap hc
  have hs1 := c1.size
  have hs2 := c2.size
  simp at hs1 hs2
  have k1 : Chg (b :: v.ownBlock.toList) w w1 := ((Chg.refl [] w).alloc _).trans' c1 (by simp [Value.ownBlock]) |>.mono (by simp)
  have k1' : ∀ k, v1.ownBlock = some k → w.heap.size ≤ k := fun k hk => by rcases f1 k hk with h | h <;> simp [Value.ownBlock] at h <;> omega
  have k2 : Chg (b :: v.ownBlock.toList) w w2 := (k1.alloc _).trans' c2 (fun k hk => by simp at hk; exact .inr (k1' k hk))
  have k2' : ∀ k, v2.ownBlock = some k → w.heap.size ≤ k := fun k hk => by
    rcases f2 k hk with h | h
    · exact k1' k h
    · simp at h; omega
  have hc1 : w1.heap[b]? = some (.cells #[v] 35 (0, 0)) := c1.heap (by rw [Below.heap_alloc _ _ _ hlt]; exact hc) (by simp [Value.ownBlock]; omega)
  have hc2 : w2.heap[b]? = some (.cells #[v] 35 (0, 0)) := c2.heap (k := b) (by rw [Below.heap_alloc _ _ _ (by omega)]; exact hc1) (fun hk => by simp at hk; have := k1' b hk; omega)
  refine ⟨v2, ⟨one_set hc2 v2, ?_⟩, k2.setCell (by simp) _, fun k hk => .inr (k2' k hk)⟩
  have e : nums (L ++ [x]) = nums L ++ [.int .i64 x] := by simp [nums]
  rw [e, List.length_append, List.length_singleton]
  exact o2.chg ((Chg.refl [b] w2).setCell (by simp) v2) (fun k hk => by have := k2' k hk; simp; omega)

theorem rset_app_mid (b : Nat) (v : Value) (L : List Int) (x : Int) (w : World) (hb : IsRef w b v L) :
    (∀ v1 w1, App (w.alloc (.cells #[] 3)) w1 3 1 (.slice (some ⟨w.heap.size, 0, none⟩) 0 0) v1 L.length (nums L) → b < w1.heap.size ∧ w1.cell? ⟨b, 0, none⟩ = some v ∧
    ∀ v2 w2, App (w1.alloc (.cells #[.int .i64 x] 3)) w2 3 1 v1 v2 (L.length + 1) (nums L ++ [.int .i64 x]) → w2.cell? ⟨b, 0, none⟩ = some v ∧ w2.frozen? ⟨b, 0, none⟩ = false ∧ RPost w (w2.setCell ⟨b, 0, none⟩ v2) b v (L ++ [x])) := by
  intro v1 w1 a1
  have hb0 := hb
  obtain ⟨hc, ho⟩ := hb
  have hlt := lt_of_heap hc
  have hs1 := a1.chg.size
  simp at hs1
  have hc1 : w1.heap[b]? = some (.cells #[v] 35 (0, 0)) := a1.chg.heap (by rw [Below.heap_alloc _ _ _ hlt]; exact hc) (by simp [Value.ownBlock]; omega)
  refine ⟨by omega, one_cell hc1, ?_⟩
  intro v2 w2 a2
  have hc2 : w2.heap[b]? = some (.cells #[v] 35 (0, 0)) := a2.chg.heap (k := b) (by rw [Below.heap_alloc _ _ _ (by omega)]; exact hc1) (fun hk => by simp at hk; have := a1.at_ b hk; simp [Value.ownBlock] at this; omega)
  exact ⟨one_cell hc2, one_free hc2 0, rset_app_end b v L x w w1 w2 v1 v2 hb0 a1 a2⟩

set_option maxRecDepth 100000 in
set_option maxHeartbeats 2000000 in
theorem rset_app_lo (b : Nat) (v : Value) (L : List Int) (room : Int) (w : World) (hb : IsRef w b v L) (hl : L.length < 256) (h1 : room < -1) :
    Calls Try.prog 17 #[.pointer (some ⟨b, 0, none⟩), .int .i64 L.length, .int .i64 room] w fun e w' => e = .returned (.int .i64 0) ∧ RPost w w' b v (L ++ [-1]) := by
  have key := rset_app_mid b v L (-1) w hb
  obtain ⟨hc, ho⟩ := hb
  obtain ⟨A, c, rfl⟩ := ho.form'
  have hcell := one_cell hc
  have hlt := lt_of_heap hc
  have own0 : Own (w.alloc (.cells #[] 3)) 3 1 (.slice (some ⟨w.heap.size, 0, none⟩) 0 0) 0 [] := World.ownsRow_lit w #[] 0 (Nat.zero_le _) (by decide) rfl
  have src0 := (Src1.of_own ho (nums_one L)).alloc (.cells #[] 3)
  obtain ⟨m, hm⟩ : ∃ m, m = L.length := ⟨_, rfl⟩
  rw [← hm] at hcell hl src0 key ⊢
  clear hm ho hc
  have OWN0 := Lib.hid own0
  have SRC0 := Lib.hid src0
  have KEY := Lib.hid key
  clear key own0 src0
  have d1 : decide ((m : Int) < 0) = false := by simp
  have d2 : decide ((255 : Int) < m) = false := by simp; omega
  go_enter Try.func17, Try.ntmps17
  go_wp2_with (at_builtin; first | (refine wpList_app rfl (.tmp 34) (.tmp 38) 33 rfl 3 1 8 El33 (.slice (some ⟨w.heap.size, 0, none⟩) 0 0) 0 [] rfl OWN0.out (.slice A m c) m (nums L) rfl SRC0.out m (nums L) (Nat.zero_add _) rfl (by unfold maxLen; omega) (by omega) ?_; intro A1 c1 w1 a1; obtain ⟨hlt1, hc1, key1⟩ := KEY.out _ w1 a1; have KEY1 := Lib.hid key1; clear key1) | (refine wpList_app rfl (.tmp 39) (.tmp 41) 33 rfl 3 1 8 El33 (.slice A1 m c1) m (nums L) rfl (a1.own.alloc _) (.slice (some ⟨w1.heap.size, 0, none⟩) 1 1) 1 [.int .i64 (-1)] rfl (Src1.one rfl) (m + 1) (nums L ++ [.int .i64 (-1)]) rfl rfl (by unfold maxLen; omega) (by omega) ?_; intro A2 c2 w2 a2; obtain ⟨hc2, hf2, key2⟩ := KEY1.out _ w2 a2; have KEY2 := Lib.hid key2; clear key2))
  go_ret
  exact ⟨rfl, KEY2.out⟩
set_option maxRecDepth 100000 in
set_option maxHeartbeats 2000000 in
theorem rset_app_hi (b : Nat) (v : Value) (L : List Int) (room : Int) (w : World) (hb : IsRef w b v L) (hl : L.length < 256) (h1 : 512 < room) :
    Calls Try.prog 17 #[.pointer (some ⟨b, 0, none⟩), .int .i64 L.length, .int .i64 room] w fun e w' => e = .returned (.int .i64 0) ∧ RPost w w' b v (L ++ [512]) := by
  have key := rset_app_mid b v L (512) w hb
  obtain ⟨hc, ho⟩ := hb
  obtain ⟨A, c, rfl⟩ := ho.form'
  have hcell := one_cell hc
  have hlt := lt_of_heap hc
  have own0 : Own (w.alloc (.cells #[] 3)) 3 1 (.slice (some ⟨w.heap.size, 0, none⟩) 0 0) 0 [] := World.ownsRow_lit w #[] 0 (Nat.zero_le _) (by decide) rfl
  have src0 := (Src1.of_own ho (nums_one L)).alloc (.cells #[] 3)
  obtain ⟨m, hm⟩ : ∃ m, m = L.length := ⟨_, rfl⟩
  rw [← hm] at hcell hl src0 key ⊢
  clear hm ho hc
  have OWN0 := Lib.hid own0
  have SRC0 := Lib.hid src0
  have KEY := Lib.hid key
  clear key own0 src0
  have d1 : decide ((m : Int) < 0) = false := by simp
  have d2 : decide ((255 : Int) < m) = false := by simp; omega
  go_enter Try.func17, Try.ntmps17
  go_wp2_with (at_builtin; first | (refine wpList_app rfl (.tmp 34) (.tmp 38) 33 rfl 3 1 8 El33 (.slice (some ⟨w.heap.size, 0, none⟩) 0 0) 0 [] rfl OWN0.out (.slice A m c) m (nums L) rfl SRC0.out m (nums L) (Nat.zero_add _) rfl (by unfold maxLen; omega) (by omega) ?_; intro A1 c1 w1 a1; obtain ⟨hlt1, hc1, key1⟩ := KEY.out _ w1 a1; have KEY1 := Lib.hid key1; clear key1) | (refine wpList_app rfl (.tmp 39) (.tmp 41) 33 rfl 3 1 8 El33 (.slice A1 m c1) m (nums L) rfl (a1.own.alloc _) (.slice (some ⟨w1.heap.size, 0, none⟩) 1 1) 1 [.int .i64 (512)] rfl (Src1.one rfl) (m + 1) (nums L ++ [.int .i64 (512)]) rfl rfl (by unfold maxLen; omega) (by omega) ?_; intro A2 c2 w2 a2; obtain ⟨hc2, hf2, key2⟩ := KEY1.out _ w2 a2; have KEY2 := Lib.hid key2; clear key2))
  go_ret
  exact ⟨rfl, KEY2.out⟩
set_option maxRecDepth 100000 in
set_option maxHeartbeats 2000000 in
theorem rset_app_mid' (b : Nat) (v : Value) (L : List Int) (room : Int) (w : World) (hb : IsRef w b v L) (hl : L.length < 256) (h0 : -1 ≤ room) (h1 : room ≤ 512) :
    Calls Try.prog 17 #[.pointer (some ⟨b, 0, none⟩), .int .i64 L.length, .int .i64 room] w fun e w' => e = .returned (.int .i64 0) ∧ RPost w w' b v (L ++ [room]) := by
  have key := rset_app_mid b v L (room) w hb
  obtain ⟨hc, ho⟩ := hb
  obtain ⟨A, c, rfl⟩ := ho.form'
  have hcell := one_cell hc
  have hlt := lt_of_heap hc
  have own0 : Own (w.alloc (.cells #[] 3)) 3 1 (.slice (some ⟨w.heap.size, 0, none⟩) 0 0) 0 [] := World.ownsRow_lit w #[] 0 (Nat.zero_le _) (by decide) rfl
  have src0 := (Src1.of_own ho (nums_one L)).alloc (.cells #[] 3)
  obtain ⟨m, hm⟩ : ∃ m, m = L.length := ⟨_, rfl⟩
  rw [← hm] at hcell hl src0 key ⊢
  clear hm ho hc
  have OWN0 := Lib.hid own0
  have SRC0 := Lib.hid src0
  have KEY := Lib.hid key
  clear key own0 src0
  have d1 : decide ((m : Int) < 0) = false := by simp
  have d2 : decide ((255 : Int) < m) = false := by simp; omega
  go_enter Try.func17, Try.ntmps17
  go_wp2_with (at_builtin; first | (refine wpList_app rfl (.tmp 34) (.tmp 38) 33 rfl 3 1 8 El33 (.slice (some ⟨w.heap.size, 0, none⟩) 0 0) 0 [] rfl OWN0.out (.slice A m c) m (nums L) rfl SRC0.out m (nums L) (Nat.zero_add _) rfl (by unfold maxLen; omega) (by omega) ?_; intro A1 c1 w1 a1; obtain ⟨hlt1, hc1, key1⟩ := KEY.out _ w1 a1; have KEY1 := Lib.hid key1; clear key1) | (refine wpList_app rfl (.tmp 39) (.tmp 41) 33 rfl 3 1 8 El33 (.slice A1 m c1) m (nums L) rfl (a1.own.alloc _) (.slice (some ⟨w1.heap.size, 0, none⟩) 1 1) 1 [.int .i64 (room)] rfl (Src1.one rfl) (m + 1) (nums L ++ [.int .i64 (room)]) rfl rfl (by unfold maxLen; omega) (by omega) ?_; intro A2 c2 w2 a2; obtain ⟨hc2, hf2, key2⟩ := KEY1.out _ w2 a2; have KEY2 := Lib.hid key2; clear key2))
  go_ret
  exact ⟨rfl, KEY2.out⟩

/-- lapidaryref06.Set, of whatever page and room. -/
theorem rset_any (b : Nat) (v : Value) (L : List Int) (page room : Int) (w : World) (hb : IsRef w b v L) (hl : L.length ≤ 256) :
    Calls Try.prog 17 #[.pointer (some ⟨b, 0, none⟩), .int .i64 page, .int .i64 room] w fun e w' => e = .returned (.int .i64 (setCode L page)) ∧ RPost w w' b v (setNew L page room) := by
  have hsame : RPost w w b v L := ⟨v, hb, Chg.refl _ _, fun k hk => .inl hk⟩
  by_cases h1 : page < 0 ∨ 256 ≤ page
  · have hc : setCode L page = 1 := by unfold setCode; rw [if_pos h1]
    refine (rset_bad b page room w h1).mono ?_
    rintro e w' ⟨rfl, rfl⟩
    unfold setNew
    rw [hc, if_neg (by decide)]
    exact ⟨rfl, hsame⟩
  · by_cases h2 : (L.length : Int) < page
    · have hc : setCode L page = 3 := by unfold setCode; rw [if_neg h1, if_pos h2]
      obtain ⟨A, c, hv⟩ := hb.2.form'
      refine (rset_form b L.length c A page room w (by rw [one_cell hb.1, hv]) h2 (by omega)).mono ?_
      rintro e w' ⟨rfl, rfl⟩
      unfold setNew
      rw [hc, if_neg (by decide)]
      exact ⟨rfl, hsame⟩
    · have hc : setCode L page = 0 := by unfold setCode; rw [if_neg h1, if_neg h2]
      obtain ⟨n, rfl⟩ := Int.eq_ofNat_of_zero_le (show 0 ≤ page by omega)
      unfold setNew
      rw [hc, if_pos rfl]
      unfold setL
      by_cases h3 : n = L.length
      · subst h3
        rw [Int.toNat_natCast, if_pos rfl]
        by_cases r1 : room < -1
        · rw [clamp_lo r1]; exact rset_app_lo b v L room w hb (by omega) r1
        · by_cases r2 : 512 < room
          · rw [clamp_hi r2]; exact rset_app_hi b v L room w hb (by omega) r2
          · rw [clamp_mid r1 r2]; exact rset_app_mid' b v L room w hb (by omega) (by omega) (by omega)
      · rw [Int.toNat_natCast, if_neg h3]
        exact rset_set b v L n room w hb (by omega) hl

theorem rget_nil (page : Int) (w : World) : Calls Try.prog 20 #[.pointer none, .int .i64 page] w fun e w' => e = .returned (.int .i64 (-1)) ∧ w = w' := by
  go_enter Try.func20, Try.ntmps20
  go_wp2
  go_ret
  exact ⟨rfl, rfl⟩
set_option maxHeartbeats 1000000 in
theorem rget_out (b n c : Nat) (A : Option Addr) (page : Int) (w : World) (hb : w.cell? ⟨b, 0, none⟩ = some (.slice A n c)) (h : page < 0 ∨ (n : Int) ≤ page) :
    Calls Try.prog 20 #[.pointer (some ⟨b, 0, none⟩), .int .i64 page] w fun e w' => e = .returned (.int .i64 (-1)) ∧ w = w' := by
  by_cases h1 : page < 0
  · go_enter Try.func20, Try.ntmps20
    go_wp2
    go_ret
    exact ⟨rfl, rfl⟩
  · have h2 : (n : Int) ≤ page := by omega
    clear h
    go_enter Try.func20, Try.ntmps20
    go_wp2
    go_ret
    exact ⟨rfl, rfl⟩
set_option maxHeartbeats 1000000 in
theorem rget_in (b n c g k : Nat) (x : Int) (w : World) (hb : w.cell? ⟨b, 0, none⟩ = some (.slice (some ⟨g, 0, none⟩) n c)) (hk : k < n) (hx : w.cell? ⟨g, k, none⟩ = some (.int .i64 x)) :
    Calls Try.prog 20 #[.pointer (some ⟨b, 0, none⟩), .int .i64 k] w fun e w' => e = .returned (.int .i64 x) ∧ w = w' := by
  have d1 : decide ((k : Int) < 0) = false := by simp
  have d2 : decide (n ≤ k) = false := by simp; omega
  go_enter Try.func20, Try.ntmps20
  go_wp2
  go_ret
  exact ⟨rfl, rfl⟩
theorem rget_any (b : Nat) (v : Value) (L : List Int) (page : Int) (w : World) (hb : IsRef w b v L) :
    Calls Try.prog 20 #[.pointer (some ⟨b, 0, none⟩), .int .i64 page] w fun e w' => e = .returned (.int .i64 (getAt L page)) ∧ w = w' := by
  obtain ⟨hc, ho⟩ := hb
  obtain ⟨A, c, rfl⟩ := ho.form'
  by_cases h : 0 ≤ page ∧ page < L.length
  · obtain ⟨k, rfl⟩ := Int.eq_ofNat_of_zero_le h.1
    obtain ⟨g, rfl, hg, hgc, _⟩ := ho.at_ (k := k) (by omega)
    unfold getAt
    rw [if_pos h, Int.toNat_natCast]
    exact rget_in b L.length c g k _ w (one_cell hc) (by omega) (hgc k _ (getD_nums L k (by omega)))
  · unfold getAt
    rw [if_neg h]
    exact rget_out b L.length c A page w (one_cell hc) (by omega)

end Go.Proofs.Yteokjaocnemmlaa
