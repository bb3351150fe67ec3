/-
  A heap, one of whose pages has turned; the walks of package heap: Used, Get, Stamp, Free.
-/
import Derived.Test.YteokjaocnemmlaaHeap2
namespace Go.Proofs.Yteokjaocnemmlaa
open Go.RowKit

theorem clamp_room (L : PL) : clamp (room L) = room L := by
  unfold clamp room
  omega
theorem setNew_set {H : List PL} {i : Nat} (hi : i < H.length) (h256 : H.length ≤ 256) (L : PL) : setNew (H.map room) i (room L) = (H.set i L).map room := by
  have hc : setCode (H.map room) i = 0 := by unfold setCode; rw [List.length_map, if_neg (by omega), if_neg (by omega)]
  unfold setNew setL
  rw [if_pos hc, if_neg (by rw [List.length_map]; simp; omega), clamp_room, List.map_set]
  simp
theorem setNew_app {H : List PL} (h256 : H.length < 256) (L : PL) : setNew (H.map room) H.length (room L) = (H ++ [L]).map room := by
  have hc : setCode (H.map room) H.length = 0 := by unfold setCode; rw [List.length_map, if_neg (by omega), if_neg (by omega)]
  unfold setNew setL
  rw [if_pos hc, if_pos (by rw [List.length_map]; simp), clamp_room, List.map_append]
  simp

section
variable {w : World} {pl : Nat} {G : HG} {H : List PL}
theorem PageAt.block {w : World} {b : Nat} {L : PL} (h : PageAt w b L) : ∃ cs, w.heap[b]? = some (.cells cs 134 (0, 0)) := by
  obtain ⟨f, fr, st, h1, _⟩ := h
  exact ⟨_, h1⟩
theorem HeapAt.hb_rb (h : HeapAt w pl G H) : G.hb ≠ G.rb := by
  obtain ⟨f, hf, _⟩ := h.rooms
  exact ne_of_type h.head hf (by decide)
theorem HeapAt.row_block (h : HeapAt w pl G H) {g : Nat} (hg : G.v.ownBlock = some g) : ∃ cs, w.heap[g]? = some (.cells cs 104 (0, 0)) := by
  rcases h.row.2 with ⟨he, _⟩ | ⟨g', cap, cur, he, _, hh, _⟩
  · rw [he] at hg; cases hg
  · rw [he] at hg
    injection hg with hg
    subst hg
    exact ⟨_, hh⟩
theorem HeapAt.row_ne (h : HeapAt w pl G H) {g : Nat} (hg : G.v.ownBlock = some g) : g ≠ G.hb ∧ g ≠ G.rb ∧ g ∉ G.ptrs := by
  obtain ⟨cs, hc⟩ := h.row_block hg
  obtain ⟨f, hf, _⟩ := h.rooms
  refine ⟨ne_of_type hc h.head (by decide), ne_of_type hc hf (by decide), fun hm => ?_⟩
  obtain ⟨L, hL⟩ := h.pageOf hm
  obtain ⟨cs2, hc2⟩ := hL.block
  exact ne_of_type hc hc2 (by decide) rfl
theorem HeapAt.ptr_ne (h : HeapAt w pl G H) {b : Nat} (hb : b ∈ G.ptrs) : b ≠ G.hb ∧ b ≠ G.rb ∧ G.v.ownBlock ≠ some b := by
  obtain ⟨L, hL⟩ := h.pageOf hb
  obtain ⟨cs2, hc2⟩ := hL.block
  obtain ⟨f, hf, _⟩ := h.rooms
  exact ⟨ne_of_type hc2 h.head (by decide), ne_of_type hc2 hf (by decide), fun he => (h.row_ne he).2.2 hb⟩
theorem HeapAt.h256 (h : HeapAt w pl G H) : H.length ≤ 256 := by
  obtain ⟨f, hf, hm⟩ := h.rooms
  have := hm.le
  simpa using this
theorem HeapAt.pl_ne {left : Nat} (h : HeapAt w pl G H) (hp : PoolAt w pl left) : pl ∉ G.foot := by
  intro hm
  rcases mem_foot.1 hm with e | e | e | e
  · exact ne_of_type hp h.head (by decide) e
  · obtain ⟨f, hf, _⟩ := h.rooms
    exact ne_of_type hp hf (by decide) e
  · obtain ⟨cs, hc⟩ := h.row_block e
    exact ne_of_type hp hc (by decide) rfl
  · obtain ⟨L, hL⟩ := h.pageOf e
    obtain ⟨cs2, hc2⟩ := hL.block
    exact ne_of_type hp hc2 (by decide) rfl

/-- Page i has turned, and is told anew (or has the room that it had). -/
theorem HeapAt.turned {S : List Nat} {w2 : World} (h : HeapAt w pl G H) {i b : Nat} {L : PL} (hb : G.ptrs[i]? = some b) (hC : Chg S w w2) (hS : ∀ x, x ∈ G.foot → x ∈ S → x = b ∨ x = G.rb) (hp : PageAt w2 b L) (hm : IsMap w2 G.rb ((H.set i L).map room)) : HeapAt w2 pl G (H.set i L) := by
  have hbm := List.mem_of_getElem? hb
  have hne := h.ptr_ne hbm
  have hrb := h.hb_rb
  refine ⟨hC.heap h.head (fun hx => ?_), ?_, h.nodup, hm, ?_⟩
  · rcases hS _ (mem_foot.2 (.inl rfl)) hx with e | e
    · exact hne.1 e.symm
    · exact hrb e
  · rw [List.length_set]
    exact h.row.chg hC (fun k hk hx => by
      have h3 := h.row_ne hk
      rcases hS _ (mem_foot.2 (.inr (.inr (.inl hk)))) hx with e | e
      · exact hne.2.2 (e ▸ hk)
      · exact h3.2.1 e)
  · intro j b' L' hb' hL'
    by_cases hj : j = i
    · subst hj
      rw [hb] at hb'
      injection hb' with hb'
      subst hb'
      have hl := h.len
      have hlt := getElem?_lt hb
      rw [List.getElem?_set_self (by omega)] at hL'
      injection hL' with hL'
      subst hL'
      exact hp
    · rw [List.getElem?_set_ne (by omega)] at hL'
      have hb'm := List.mem_of_getElem? hb'
      have hne' := h.ptr_ne hb'm
      refine (h.page j b' L' hb' hL').chg hC (fun hx => ?_)
      rcases hS _ (mem_foot.2 (.inr (.inr (.inr hb'm)))) hx with e | e
      · refine hj ?_
        subst e
        have h1 := getElem?_lt hb
        have h2 := getElem?_lt hb'
        have h3 := h.nodup
        rw [List.getElem?_eq_getElem h1] at hb
        rw [List.getElem?_eq_getElem h2] at hb'
        injection hb with hb
        injection hb' with hb'
        exact (List.getElem_inj h3).1 (hb'.trans hb.symm)
      · exact hne'.2.1 e
theorem HeapAt.ptr_of (h : HeapAt w pl G H) {i : Nat} {L : PL} (hL : H[i]? = some L) : ∃ b, G.ptrs[i]? = some b ∧ PageAt w b L := by
  have hl := h.len
  have hlt := getElem?_lt hL
  have e := List.getElem?_eq_getElem (l := G.ptrs) (i := i) (by omega)
  exact ⟨_, e, h.page i _ L e hL⟩
end

/-! ### Used -/
def usedH (H : List PL) : Nat := (H.map usedN).sum
theorem used_heap_nil (w : World) : Calls Try.prog 41 #[.pointer none] w fun e w' => e = .returned (.int .i64 0) ∧ w = w' := by
  go_enter Try.func41, Try.ntmps41
  go_wp2
  go_ret
  exact ⟨rfl, rfl⟩
theorem usedH_take {H : List PL} {i : Nat} {L : PL} (h : H[i]? = some L) : usedH (H.take (i + 1)) = usedH (H.take i) + usedN L := by
  have hl := getElem?_lt h
  unfold usedH
  rw [List.take_succ_eq_append_getElem hl, List.map_append, List.sum_append]
  rw [List.getElem?_eq_getElem hl] at h
  injection h with h
  rw [h]
  simp
theorem usedN_le (L : PL) : usedN L ≤ L.length := by unfold usedN; exact List.countP_le_length
theorem PageAt.small {w : World} {b : Nat} {L : PL} (h : PageAt w b L) : L.length ≤ 128 := by
  obtain ⟨f, fr, st, _, h2⟩ := h
  have := h2.lo
  have := h2.hi
  omega
theorem pused_at {w : World} {b : Nat} {L : PL} (h : PageAt w b L) : Calls Try.prog 62 #[.pointer (some ⟨b, 0, none⟩)] w fun e w' => e = .returned (.int .i64 (usedN L)) ∧ ∃ n, w' = w.drewN n := by
  obtain ⟨f, fr, st, h1, h2⟩ := h
  exact pused h2 h1

set_option maxRecDepth 100000 in
set_option maxHeartbeats 2000000 in
theorem used_heap {w : World} {pl : Nat} {G : HG} {H : List PL} (h : HeapAt w pl G H) : Calls Try.prog 41 #[ptrV G.hb] w fun e w' => e = .returned (.int .i64 (usedH H)) ∧ ∃ n, w' = w.drewN n := by
  have hneq := @run_neq_slice_nil_any Try.prog
  obtain ⟨A, c, hv⟩ := h.form
  have c1 := h.c1
  rw [hv] at c1
  obtain ⟨m, hm⟩ : ∃ m, m = H.length := ⟨_, rfl⟩
  rw [← hm] at c1
  have h256 := h.h256
  rw [← hm] at h256
  obtain ⟨hb, hhb⟩ : ∃ hb, hb = G.hb := ⟨_, rfl⟩
  rw [← hhb] at c1 ⊢
  have HH := Lib.hid h
  have HM := Lib.hid hm
  have HV := Lib.hid hv
  clear h hm hhb hv hneq
  unfold ptrV
  go_enter Try.func41, Try.ntmps41
  go_wp2_with fail
  go_loopw [3, 5, 13] (fun v _ i wr => ∃ (k n u : Nat), i = .int .i64 k ∧ k ≤ m ∧ v = .int .i64 u ∧ u = usedH (H.take k) ∧ u ≤ 128 * k ∧ wr = w.drewN n) (fun _ _ i _ => m - (intOf i).toNat)
  case atStart => exact ⟨0, 0, 0, rfl, by omega, rfl, rfl, by omega, rfl⟩
  case round =>
    obtain ⟨k, n, u, rfl, hk, rfl, hu, hu2, rfl⟩ := hrel
    have HU := Lib.hid hu
    clear hu
    by_cases hlt : k < m
    · obtain ⟨L, hL⟩ : ∃ L, H[k]? = some L := ⟨_, List.getElem?_eq_getElem (by rw [← HM.out]; exact hlt)⟩
      obtain ⟨b, hb', hpg⟩ := HH.out.ptr_of hL
      obtain ⟨g, c', hv', hc⟩ := HH.out.at_ hb'
      rw [HV.out] at hv'
      injection hv' with hv1 hv2 hv3
      subst hv1
      have hsm := hpg.small
      have hun := usedN_le L
      obtain ⟨x, hx⟩ : ∃ x, x = usedN L := ⟨_, rfl⟩
      have hus := fun n => pused_at (hpg.chg ((Chg.refl [] w).drewN n) (by simp))
      rw [← hx] at hus hun
      have HUS := Lib.hid hus
      have HT : Hid (usedH (H.take (k + 1)) = u + x) := Lib.hid (by rw [usedH_take hL, HU.out, hx])
      clear hus hpg hb' hL hx hv2 hv3
      go_wp2_with (first | (go_at_call 62; refine (HUS.out _).mono ?_; rintro e w' ⟨rfl, n2, rfl⟩))
      go_roundw
      case measure => simp [intOf]; omega
      case rel => exact ⟨k + 1, n + n2, u + x, by go_num, by omega, by go_num, HT.out.symm, by omega, rfl⟩
    · have hke : k = m := by omega
      have HK : Hid (usedH H = u) := Lib.hid (by rw [HU.out, hke, HM.out, List.take_length])
      clear hke
      go_wp2_with fail
      go_ret
      exact ⟨by rw [HK.out]; rfl, _, rfl⟩
end Go.Proofs.Yteokjaocnemmlaa
