/-
  The walks of package heap: Free, Drop; Get and Free of whatever place.
-/
import Derived.Test.YteokjaocnemmlaaHeap5
namespace Go.Proofs.Yteokjaocnemmlaa
open Go.RowKit

set_option maxRecDepth 100000 in
set_option maxHeartbeats 4000000 in
theorem hfree_val (hv q : Value) (pg s : Int) (w : World)
    (hp : ∀ w0, Chg [] w w0 → Hid (Calls Try.prog 46 #[hv, .int .i64 pg] w0 fun e w' => e = .returned q ∧ w0 = w'))
    (hf : ∀ w0, Chg [] w w0 → Hid (Calls Try.prog 52 #[q, .int .i64 s] w0 fun e w' => e = .returned (.int .i64 15) ∧ ∃ n, w' = w0.drewN n)) :
    Calls Try.prog 31 #[hv, .agg #[.int .i64 pg, .int .i64 s]] w fun e w' => e = .returned (.int .i64 15) ∧ Chg [] w w' := by
  have HPG := Lib.hid hp
  have HFR := Lib.hid hf
  clear hp hf
  go_enter Try.func31, Try.ntmps31
  go_wp2_with fail
  generalize hwa : World.alloc _ _ = wa
  have HG0 : Hid (wa.heap[w.heap.size]? = some (.cells #[.int .i64 pg, .int .i64 s] 53 (0, 0))) := Lib.hid (by rw [← hwa]; exact heap_alloc_new w _)
  have HCa : Hid (Chg [] w wa) := Lib.hid (by rw [← hwa]; exact (Chg.refl [] w).alloc _)
  have b0 := two0 HG0.out
  have b1 := two1 HG0.out
  clear hwa
  go_region_held3 (fun w' => w'.cell? ⟨w.heap.size, 0, none⟩ = some (.int .i64 pg) ∧ w'.cell? ⟨w.heap.size, 1, none⟩ = some (.int .i64 s)) (first | with_reducible exact ⟨b0, b1⟩ | go_keep)
    (first
     | (go_at_call 46; refine (HPG.out _ (by exact HCa.out.same)).out.mono ?_; rintro e w' ⟨rfl, rfl⟩)
     | (go_at_call 52; refine (HFR.out _ (by exact HCa.out.same)).out.mono ?_; rintro e w' ⟨rfl, n, rfl⟩))
  go_wp2
  go_ret
  exact ⟨rfl, HCa.out.same⟩

theorem pfree_at {w : World} {b : Nat} {L : PL} (h : PageAt w b L) {s : Nat} {t : Tup} (hs : L[s]? = some (some t)) :
    Calls Try.prog 52 #[.pointer (some ⟨b, 0, none⟩), .int .i64 s] w fun e w' => e = .returned (.int .i64 0) ∧ PageAt w' b (rem L s) ∧ Chg [b] w w' := by
  obtain ⟨f, fr, st, h1, h2⟩ := h
  refine (pfree_ok h2 h1 hs).mono ?_
  rintro e w' ⟨rfl, ⟨f', h3, h4⟩, h5⟩
  exact ⟨rfl, ⟨f', fr, st, h3, h4⟩, h5⟩
theorem pfree_no {w : World} {b : Nat} {L : PL} (h : PageAt w b L) {s : Int} (hs : slotOf L s = none) (w0 : World) (hC : Chg [] w w0) :
    Calls Try.prog 52 #[.pointer (some ⟨b, 0, none⟩), .int .i64 s] w0 fun e w' => e = .returned (.int .i64 15) ∧ ∃ n, w' = w0.drewN n := by
  obtain ⟨f, fr, st, h1, h2⟩ := h.chg hC (by simp)
  refine pfree_none _ _ w0 (Lib.hid (pbytes_none h2 h1 s ?_))
  unfold slotOf at hs
  by_cases h0 : s < 0
  · exact .inl h0
  · rw [if_neg h0] at hs
    refine .inr fun t ht => ?_
    rw [ht] at hs
    cases hs

set_option maxRecDepth 100000 in
set_option maxHeartbeats 4000000 in
theorem hfree_ok {w : World} {pl : Nat} {G : HG} {H : List PL} (h : HeapAt w pl G H) {i s : Nat} {L : PL} {t : Tup} (hL : H[i]? = some L) (hs : L[s]? = some (some t)) :
    Calls Try.prog 31 #[.pointer (some ⟨G.hb, 0, none⟩), .agg #[.int .i64 i, .int .i64 s]] w fun e w' => e = .returned (.int .i64 0) ∧ HeapAt w' pl G (H.set i (rem L s)) ∧ Chg G.foot w w' := by
  have HH := Lib.hid h
  have HL := Lib.hid hL
  have HS := Lib.hid hs
  clear hL hs
  go_enter Try.func31, Try.ntmps31
  go_wp2_with fail
  generalize hwa : World.alloc _ _ = wv
  have HG0 : Hid (wv.heap[w.heap.size]? = some (.cells #[.int .i64 i, .int .i64 s] 53 (0, 0))) := Lib.hid (by rw [← hwa]; exact heap_alloc_new w _)
  have HCa : Hid (Chg [] w wv) := Lib.hid (by rw [← hwa]; exact (Chg.refl [] w).alloc _)
  have b0 := two0 HG0.out
  have b1 := two1 HG0.out
  clear hwa
  have hHv := h.below HCa.out (by simp)
  have HHv := Lib.hid hHv
  have hlt := h.lt
  obtain ⟨b, hb', hpb⟩ := hHv.ptr_of HL.out
  obtain ⟨g, cp, hgv, dg⟩ := hHv.at_ hb'
  have d1 := hHv.c1
  rw [hgv] at d1
  have d2 := hHv.c2
  have hbm := List.mem_of_getElem? hb'
  have hgb : G.v.ownBlock = some g := by rw [hgv]; rfl
  have ne1 := hHv.ptr_ne hbm
  have ne2 := hHv.row_ne hgb
  have ne3 := hHv.hb_rb
  have lb := hlt b (mem_foot.2 (.inr (.inr (.inr hbm))))
  have lr := hlt G.rb (mem_foot.2 (.inr (.inl rfl)))
  have him : i < H.length := getElem?_lt HL.out
  have hRv := hHv.rooms
  have HB' := Lib.hid hb'
  have h256 := h.h256
  have HPB := Lib.hid hpb
  have HPS := Lib.hid (fun (w0 : World) (hC : Chg [] wv w0) => page_some (hHv.below hC (by simp)) hb')
  unfold ptrV at HPS
  obtain ⟨hb, hhb⟩ : ∃ hb, hb = G.hb := ⟨_, rfl⟩
  obtain ⟨rb, hrb⟩ : ∃ rb, rb = G.rb := ⟨_, rfl⟩
  obtain ⟨m, hm⟩ : ∃ m, m = H.length := ⟨_, rfl⟩
  rw [← hhb] at d1 d2 ne1 ne2 ne3 HPS ⊢
  rw [← hrb] at ne1 ne2 ne3 lr hRv d2
  have him' := him
  rw [← hm] at d1 him
  have HRB := Lib.hid hrb
  have hlt' := hlt
  have nb1 : hb ≠ b := fun e => ne1.1 e.symm
  have nb2 : g ≠ b := fun e => ne1.2.2 (e ▸ hgb)
  have nb3 : w.heap.size ≠ b := by omega
  have nb5 : rb ≠ b := fun e => ne1.2.1 e.symm
  have nb6 : hb ≠ rb := ne3
  have nb7 : g ≠ rb := ne2.2.1
  have nb8 : b ≠ rb := ne1.2.1
  clear hHv h hpb hb' hgv hbm hgb ne1 ne2 ne3 hhb hrb hlt hm
  go_region_held3 (fun w' => w'.cell? ⟨w.heap.size, 0, none⟩ = some (.int .i64 i) ∧ w'.cell? ⟨w.heap.size, 1, none⟩ = some (.int .i64 s)) (first | with_reducible exact ⟨b0, b1⟩ | with_reducible exact ⟨y0, y1⟩ | go_keep)
    (first
     | (go_at_call 46; refine (HPS.out _ (by exact (Chg.refl [] wv).same)).mono ?_; rintro e w' ⟨rfl, rfl⟩)
     | (go_at_call 52; refine (pfree_at (b := b) (L := L) (by exact HPB.out) HS.out).mono ?_; rintro e w3 ⟨rfl, hpb, hC⟩; have y0 := hC.cell (p := ⟨w.heap.size, 0, none⟩) (by exact b0) (by simpa using nb3); have y1 := hC.cell (p := ⟨w.heap.size, 1, none⟩) (by exact b1) (by simpa using nb3); have e1 := hC.cell (p := ⟨hb, 1, none⟩) (by exact d1) (by simpa using nb1); have e2 := hC.cell (p := ⟨hb, 2, none⟩) (by exact d2) (by simpa using nb1); have eg := hC.cell (p := ⟨g, i, none⟩) (by exact dg) (by simpa using nb2); have HP3 := Lib.hid hpb; have HR3 := Lib.hid (IsMap.chg (show IsMap wv.drew rb _ from hRv) hC (by simpa using nb5)); have HC3 : Hid (Chg [b] wv w3) := Lib.hid (Chg.trans (Chg.drew (Chg.refl [b] wv)) hC); clear hC hpb))
  clear b0 b1
  go_wp2_with (first | (go_at_call 45; refine (told_any e1 e2 him eg rfl nb6 nb7 HP3.out HR3.out).mono ?_; rintro e w4 ⟨rfl, hm4, hC4⟩; have HM4 := Lib.hid hm4; have HP4 := Lib.hid (HP3.out.chg hC4 (by simpa using nb8)); have HC4 := Lib.hid hC4; clear hC4 hm4))
  go_ret
  have HC5 : Chg [b, rb] wv w4 := (HC3.out.mono (by simp)).trans (HC4.out.mono (by simp))
  have HM5 := HM4.out
  rw [HRB.out] at HC5 HM5
  rw [setNew_set (by omega) (by omega)] at HM5
  refine ⟨rfl, ?_, ?_⟩
  · refine HHv.out.turned HB'.out HC5 ?_ HP4.out HM5
    intro x hx hxS
    simpa using hxS
  · refine (HCa.out.mono (T := G.foot) (by simp)).trans (HC5.mono ?_)
    intro x hx
    simp only [List.mem_cons, List.not_mem_nil, or_false] at hx
    rcases hx with rfl | rfl
    · exact mem_foot.2 (.inr (.inr (.inr (List.mem_of_getElem? HB'.out))))
    · exact mem_foot.2 (.inr (.inl rfl))
end Go.Proofs.Yteokjaocnemmlaa
