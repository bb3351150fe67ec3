/-
  The walks of package heap: Insert. (Printed by mk_heap5.py.)
-/
import Derived.Test.YteokjaocnemmlaaHeap4
namespace Go.Proofs.Yteokjaocnemmlaa
open Go.RowKit

theorem pnew_at (w : World) : Calls Try.prog 43 #[] w fun e w' => ∃ b, e = .returned (.pointer (some ⟨b, 0, none⟩)) ∧ PageAt w' b [] ∧ w.heap.size ≤ b ∧ Chg [] w w' := by
  refine (pnew_any w).mono ?_
  rintro e w' ⟨rfl, h1, h2, _⟩
  exact ⟨_, rfl, ⟨_, _, _, h1, PG.new⟩, Nat.le_refl _, h2⟩
theorem pinsert_at {w : World} {b : Nat} {L : PL} (h : PageAt w b L) (t : Tup) (A : Option Addr) (n c : Nat) (hn : n = t.data.length) (ho : t.Ok) (hroom : (n : Int) ≤ room L) (hsrc : Src1 w 1 (.slice A n c) n (bvals t.data)) :
    Calls Try.prog 44 #[.pointer (some ⟨b, 0, none⟩), .agg #[.int .u64 t.row, .int .u64 t.xmin, .int .u64 t.xmax, .int .i64 t.np, .int .i64 t.ns, .slice A n c]] w fun e w' => e = .returned (.tuple #[.int .i64 (freeSlot L), .int .i64 0]) ∧ PageAt w' b (ins L t) ∧ Chg [b] w w' := by
  obtain ⟨f, fr, st, h1, h2⟩ := h
  subst hn
  refine (pinsert_ok h2 h1 t A c ho hroom hsrc).mono ?_
  rintro e w' ⟨rfl, ⟨f', fr', st', h3, h4⟩, h5⟩
  exact ⟨rfl, ⟨f', fr', st', h3, h4⟩, h5⟩
theorem load53 {w : World} {g : Nat} {v0 v1 : Value} (hg : w.heap[g]? = some (.cells #[v0, v1] 53 (0, 0))) : (loadVar 53 ⟨g, 0, none⟩).run Try.prog w = .ok (.agg #[v0, v1]) w :=
  run_loadVar_row w g 53 53 _ (0, 0) _ hg Try.underlying53 rfl (by kernel_rfl)
theorem set2 {w : World} {g t : Nat} {v0 v1 : Value} (h : w.heap[g]? = some (.cells #[v0, v1] t (0, 0))) (u0 u1 : Value) : ((w.setCell ⟨g, 0, none⟩ u0).setCell ⟨g, 1, none⟩ u1).heap[g]? = some (.cells #[u0, u1] t (0, 0)) := by
  have a0 := heap_setCell_same w g 0 _ t u0 h
  have a1 := heap_setCell_same _ g 1 _ t u1 a0
  exact a1
theorem chg2 {S : List Nat} {a w : World} {g : Nat} (h : Chg S a w) (hg : g ∈ S ∨ a.heap.size ≤ g) (u0 u1 : Value) : Chg S a ((w.setCell ⟨g, 0, none⟩ u0).setCell ⟨g, 1, none⟩ u1) := (h.setCell hg u0).setCell hg u1
theorem Src1.chg' {w w' : World} {A : Option Addr} {n c : Nat} {l : List Value} (h : Src1 w 1 (.slice A n c) n l) (hc : Chg [] w w') : Src1 w' 1 (.slice A n c) n l := h.chg hc (by simp)
theorem add_block (a : Addr) (j : Nat) : (a.add j).block = a.block := by unfold Addr.add; split <;> simp_all
theorem Src1.off {w w' : World} {S : List Nat} {size m : Nat} {vx : Value} {news : List Value} (h : Src1 w size vx m news) (hc : Chg S w w') (hS : ∀ k, vx.ownBlock = some k → k ∉ S) : Src1 w' size vx m news := by
  refine ⟨h.1, h.2.1, ?_⟩
  rcases h.2.2 with h1 | ⟨ad, c', rfl, h2⟩
  · exact .inl h1
  · exact .inr ⟨ad, c', rfl, fun j u hu => hc.cell (h2 j u hu) (by rw [add_block]; exact hS _ rfl)⟩
def V53 (a b : Int) : Value := .agg #[.int .i64 a, .int .i64 b]
theorem room_new : room [] = 474 := by decide

set_option maxRecDepth 100000 in
set_option maxHeartbeats 4000000 in
theorem hinsert_bad (hb : Nat) (t : Tup) (A : Option Addr) (n c : Nat) (w : World) (hr : rightB t.row t.xmin t.xmax t.np t.ns n = false) :
    Calls Try.prog 24 #[.pointer (some ⟨hb, 0, none⟩), .agg #[.int .u64 t.row, .int .u64 t.xmin, .int .u64 t.xmax, .int .i64 t.np, .int .i64 t.ns, .slice A n c]] w fun e w' => e = .returned (.tuple #[V53 0 0, .int .i64 3]) ∧ Chg [] w w' := by
  go_enter Try.func24, Try.ntmps24
  go_wp2_with fail
  generalize hwa : World.alloc _ _ = wa
  have HB0 : Hid (wa.heap[w.heap.size]? = some (.cells #[.int .u64 t.row, .int .u64 t.xmin, .int .u64 t.xmax, .int .i64 t.np, .int .i64 t.ns, .slice A n c] 59 (0, 0))) := Lib.hid (by rw [← hwa]; exact (Below.heap_alloc _ _ _ (by simp)).trans (heap_alloc_new w _))
  have HT0 : Hid (wa.heap[w.heap.size + 1]? = some (.cells #[.int .i64 0, .int .i64 0] 53 (0, 0))) := Lib.hid (by rw [← hwa]; exact heap_alloc2_new w _ _)
  have HCa : Hid (Chg [] w wa) := Lib.hid (by rw [← hwa]; exact ((Chg.refl [] w).alloc _).alloc _)
  have hsz : w.heap.size + 1 < wa.heap.size := lt_of_heap HT0.out
  have x0 : wa.cell? ⟨w.heap.size, 0, none⟩ = some (.int .u64 t.row) := one6 HB0.out 0 (by omega)
  have x1 : wa.cell? ⟨w.heap.size, 1, none⟩ = some (.int .u64 t.xmin) := one6 HB0.out 1 (by omega)
  have x2 : wa.cell? ⟨w.heap.size, 2, none⟩ = some (.int .u64 t.xmax) := one6 HB0.out 2 (by omega)
  have x3 : wa.cell? ⟨w.heap.size, 3, none⟩ = some (.int .i64 t.np) := one6 HB0.out 3 (by omega)
  have x4 : wa.cell? ⟨w.heap.size, 4, none⟩ = some (.int .i64 t.ns) := one6 HB0.out 4 (by omega)
  have x5 : wa.cell? ⟨w.heap.size, 5, none⟩ = some (.slice A n c) := one6 HB0.out 5 (by omega)
  clear hwa
  go_region_held3 (fun w' => w'.cell? ⟨w.heap.size, 0, none⟩ = some (.int .u64 t.row) ∧ w'.cell? ⟨w.heap.size, 1, none⟩ = some (.int .u64 t.xmin) ∧ w'.cell? ⟨w.heap.size, 2, none⟩ = some (.int .u64 t.xmax) ∧ w'.cell? ⟨w.heap.size, 3, none⟩ = some (.int .i64 t.np) ∧ w'.cell? ⟨w.heap.size, 4, none⟩ = some (.int .i64 t.ns) ∧ w'.cell? ⟨w.heap.size, 5, none⟩ = some (.slice A n c)) (first | with_reducible exact ⟨x0, x1, x2, x3, x4, x5⟩ | with_reducible exact ⟨y0, y1, y2, y3, y4, y5⟩ | with_reducible exact ⟨p0, p1, p2, p3, p4, p5⟩ | go_keep)
    (first
     | (go_at_call 43; refine (pnew_at _).mono ?_; rintro e w1 ⟨nb, rfl, hpg, hnb, hC⟩; have y0 := hC.cell (p := ⟨w.heap.size, 0, none⟩) (by exact x0) (by simp); have y1 := hC.cell (p := ⟨w.heap.size, 1, none⟩) (by exact x1) (by simp); have y2 := hC.cell (p := ⟨w.heap.size, 2, none⟩) (by exact x2) (by simp); have y3 := hC.cell (p := ⟨w.heap.size, 3, none⟩) (by exact x3) (by simp); have y4 := hC.cell (p := ⟨w.heap.size, 4, none⟩) (by exact x4) (by simp); have y5 := hC.cell (p := ⟨w.heap.size, 5, none⟩) (by exact x5) (by simp); have HD1 : Hid (Chg [] wa w1) := Lib.hid (Chg.trans (Chg.drew (Chg.refl [] wa)) hC); clear hpg hC hnb)
     | (go_at_call 44; refine (pinsert_bad _ t.row t.xmin t.xmax t.np t.ns A n c _ hr).mono ?_; rintro e w2 ⟨rfl, hC⟩; have p0 := hC.cell (p := ⟨w.heap.size, 0, none⟩) (by exact y0) (by simp); have p1 := hC.cell (p := ⟨w.heap.size, 1, none⟩) (by exact y1) (by simp); have p2 := hC.cell (p := ⟨w.heap.size, 2, none⟩) (by exact y2) (by simp); have p3 := hC.cell (p := ⟨w.heap.size, 3, none⟩) (by exact y3) (by simp); have p4 := hC.cell (p := ⟨w.heap.size, 4, none⟩) (by exact y4) (by simp); have p5 := hC.cell (p := ⟨w.heap.size, 5, none⟩) (by exact y5) (by simp); have HD2 : Hid (Chg [] wa w2) := Lib.hid (HD1.out.trans hC); have HT2 := Lib.hid (HD2.out.heap (k := w.heap.size + 1) (by exact HT0.out) (by simp)); have f0 : w2.frozen? ⟨w.heap.size + 1, 0, none⟩ = false := frozen_of_row w2 (w.heap.size + 1) 0 _ 53 HT2.out; have f1 : w2.frozen? ⟨w.heap.size + 1, 1, none⟩ = false := frozen_of_row w2 (w.heap.size + 1) 1 _ 53 HT2.out; have t0 := two0 HT2.out; have t1 := two1 HT2.out; clear hC))
  clear x0 y0 p0 x1 y1 p1 x2 y2 p2 x3 y3 p3 x4 y4 p4 x5 y5 p5
  go_wp2_with fail
  refine bodyPost_ret (results_row_tmp rfl _ _ (w.heap.size + 1) _ _ rfl rfl (load53 (set2 HT2.out _ _))) rfl ?_
  exact ⟨rfl, chg2 (HCa.out.trans HD2.out) (.inr (by simp)) _ _⟩

set_option maxRecDepth 100000 in
set_option maxHeartbeats 4000000 in
theorem hinsert_old {w : World} {pl : Nat} {G : HG} {H : List PL} (h : HeapAt w pl G H) (t : Tup) (A : Option Addr) (n c i : Nat) (L : PL) (hn : n = t.data.length) (ho : t.Ok) (hsrc : Src1 w 1 (.slice A n c) n (bvals t.data))
    (hfo : findOk (H.map room) n = true) (hfp : findPos (H.map room) n = i) (hL : H[i]? = some L) (hroom : (n : Int) ≤ room L) :
    Calls Try.prog 24 #[.pointer (some ⟨G.hb, 0, none⟩), .agg #[.int .u64 t.row, .int .u64 t.xmin, .int .u64 t.xmax, .int .i64 t.np, .int .i64 t.ns, .slice A n c]] w fun e w' => e = .returned (.tuple #[V53 i (freeSlot L), .int .i64 0]) ∧ HeapAt w' pl G (H.set i (ins L t)) ∧ Chg G.foot w w' := by
  have hn200 : (n : Int) ≤ 474 := by have := ho.len; omega
  have HN := Lib.hid hn
  have HOK := Lib.hid ho
  have HSRC := Lib.hid hsrc
  have HL := Lib.hid hL
  have HRM := Lib.hid hroom
  clear hn ho hsrc hL hroom
  go_enter Try.func24, Try.ntmps24
  go_wp2_with fail
  generalize hwa : World.alloc _ _ = wa
  have HB0 : Hid (wa.heap[w.heap.size]? = some (.cells #[.int .u64 t.row, .int .u64 t.xmin, .int .u64 t.xmax, .int .i64 t.np, .int .i64 t.ns, .slice A n c] 59 (0, 0))) := Lib.hid (by rw [← hwa]; exact (Below.heap_alloc _ _ _ (by simp)).trans (heap_alloc_new w _))
  have HT0 : Hid (wa.heap[w.heap.size + 1]? = some (.cells #[.int .i64 0, .int .i64 0] 53 (0, 0))) := Lib.hid (by rw [← hwa]; exact heap_alloc2_new w _ _)
  have HCa : Hid (Chg [] w wa) := Lib.hid (by rw [← hwa]; exact ((Chg.refl [] w).alloc _).alloc _)
  have hsz : w.heap.size + 1 < wa.heap.size := lt_of_heap HT0.out
  have x0 : wa.cell? ⟨w.heap.size, 0, none⟩ = some (.int .u64 t.row) := one6 HB0.out 0 (by omega)
  have x1 : wa.cell? ⟨w.heap.size, 1, none⟩ = some (.int .u64 t.xmin) := one6 HB0.out 1 (by omega)
  have x2 : wa.cell? ⟨w.heap.size, 2, none⟩ = some (.int .u64 t.xmax) := one6 HB0.out 2 (by omega)
  have x3 : wa.cell? ⟨w.heap.size, 3, none⟩ = some (.int .i64 t.np) := one6 HB0.out 3 (by omega)
  have x4 : wa.cell? ⟨w.heap.size, 4, none⟩ = some (.int .i64 t.ns) := one6 HB0.out 4 (by omega)
  have x5 : wa.cell? ⟨w.heap.size, 5, none⟩ = some (.slice A n c) := one6 HB0.out 5 (by omega)
  clear hwa
  go_region_held3 (fun w' => w'.cell? ⟨w.heap.size, 0, none⟩ = some (.int .u64 t.row) ∧ w'.cell? ⟨w.heap.size, 1, none⟩ = some (.int .u64 t.xmin) ∧ w'.cell? ⟨w.heap.size, 2, none⟩ = some (.int .u64 t.xmax) ∧ w'.cell? ⟨w.heap.size, 3, none⟩ = some (.int .i64 t.np) ∧ w'.cell? ⟨w.heap.size, 4, none⟩ = some (.int .i64 t.ns) ∧ w'.cell? ⟨w.heap.size, 5, none⟩ = some (.slice A n c)) (first | with_reducible exact ⟨x0, x1, x2, x3, x4, x5⟩ | with_reducible exact ⟨y0, y1, y2, y3, y4, y5⟩ | with_reducible exact ⟨p0, p1, p2, p3, p4, p5⟩ | go_keep)
    (first
     | (go_at_call 43; refine (pnew_at _).mono ?_; rintro e w1 ⟨nb, rfl, hpg, hnb, hC⟩; have y0 := hC.cell (p := ⟨w.heap.size, 0, none⟩) (by exact x0) (by simp); have y1 := hC.cell (p := ⟨w.heap.size, 1, none⟩) (by exact x1) (by simp); have y2 := hC.cell (p := ⟨w.heap.size, 2, none⟩) (by exact x2) (by simp); have y3 := hC.cell (p := ⟨w.heap.size, 3, none⟩) (by exact x3) (by simp); have y4 := hC.cell (p := ⟨w.heap.size, 4, none⟩) (by exact x4) (by simp); have y5 := hC.cell (p := ⟨w.heap.size, 5, none⟩) (by exact x5) (by simp); have HPN := Lib.hid hpg; have HD1 : Hid (Chg [] wa w1) := Lib.hid (Chg.trans (Chg.drew (Chg.refl [] wa)) hC); have hnb2 : wa.heap.size ≤ nb := hnb; clear hpg hC hnb)
     | (go_at_call 44; refine (pinsert_at HPN.out t A n c HN.out HOK.out (by rw [room_new]; omega) (by exact HSRC.out.chg' (HCa.out.trans HD1.out))).mono ?_; rintro e w2 ⟨rfl, _, hC⟩; have p0 := hC.cell (p := ⟨w.heap.size, 0, none⟩) (by exact y0) (by simp; omega); have p1 := hC.cell (p := ⟨w.heap.size, 1, none⟩) (by exact y1) (by simp; omega); have p2 := hC.cell (p := ⟨w.heap.size, 2, none⟩) (by exact y2) (by simp; omega); have p3 := hC.cell (p := ⟨w.heap.size, 3, none⟩) (by exact y3) (by simp; omega); have p4 := hC.cell (p := ⟨w.heap.size, 4, none⟩) (by exact y4) (by simp; omega); have p5 := hC.cell (p := ⟨w.heap.size, 5, none⟩) (by exact y5) (by simp; omega); have HD2 : Hid (Chg [] wa w2) := Lib.hid (HD1.out.trans' hC (by simp; omega)); clear hC))
  clear x0 y0 x1 y1 x2 y2 x3 y3 x4 y4 x5 y5
  go_wp2_with fail
  have HH2 : Hid (HeapAt w2 pl G H) := Lib.hid (h.below (HCa.out.trans HD2.out) (by simp))
  have HB2 := Lib.hid (HD2.out.heap (k := w.heap.size) (by exact HB0.out) (by simp))
  have HT2 := Lib.hid (HD2.out.heap (k := w.heap.size + 1) (by exact HT0.out) (by simp))
  have HS2 : Hid (Src1 w2 1 (.slice A n c) n (bvals t.data)) := Lib.hid (HSRC.out.chg' (HCa.out.trans HD2.out))
  have hfc := fun (w : World) (hm : IsMap w G.rb (H.map room)) => find_any G.rb (H.map room) n w hm
  rw [hfo, hfp] at hfc
  have HFC := Lib.hid hfc
  have c2 := HH2.out.c2
  clear hfc hfo hfp
  go_quiet ((go_at_call 16; exact quiet_here (HFC.out _ (by exact HH2.out.rooms))))
  go_wp2_with fail
  generalize hwv : w2.drewN _ = wv
  have HDv : Hid (Chg [] wa wv) := Lib.hid (by rw [← hwv]; exact HD2.out.drewN _)
  clear hwv
  have hHv := h.below (HCa.out.trans HDv.out) (by simp)
  have HHv := Lib.hid hHv
  have hlt := h.lt
  obtain ⟨b, hb', hpb⟩ := hHv.ptr_of HL.out
  obtain ⟨g, cp, hgv, dg⟩ := hHv.at_ hb'
  have d1 := hHv.c1
  rw [hgv] at d1
  have d2 := hHv.c2
  have hbm := List.mem_of_getElem? hb'
  have hgb : G.v.ownBlock = some g := by rw [hgv]; rfl
  have ne1 := hHv.ptr_ne hbm
  have ne2 := hHv.row_ne hgb
  have ne3 := hHv.hb_rb
  have lb := hlt b (mem_foot.2 (.inr (.inr (.inr hbm))))
  have lr := hlt G.rb (mem_foot.2 (.inr (.inl rfl)))
  have him : i < H.length := getElem?_lt HL.out
  have HHL := Lib.hid (rfl : H.length = H.length)
  have hRv := hHv.rooms
  have HB' := Lib.hid hb'
  have h256 := h.h256
  have HPB := Lib.hid hpb
  have HBv := Lib.hid (HDv.out.heap (k := w.heap.size) (by exact HB0.out) (by simp))
  have HTv := Lib.hid (HDv.out.heap (k := w.heap.size + 1) (by exact HT0.out) (by simp))
  have HSv : Hid (Src1 wv 1 (.slice A n c) n (bvals t.data)) := Lib.hid (HSRC.out.chg' (HCa.out.trans HDv.out))
  clear p0 p1 p2 p3 p4 p5
  have p0 : wv.cell? ⟨w.heap.size, 0, none⟩ = some (.int .u64 t.row) := one6 HBv.out 0 (by omega)
  have p1 : wv.cell? ⟨w.heap.size, 1, none⟩ = some (.int .u64 t.xmin) := one6 HBv.out 1 (by omega)
  have p2 : wv.cell? ⟨w.heap.size, 2, none⟩ = some (.int .u64 t.xmax) := one6 HBv.out 2 (by omega)
  have p3 : wv.cell? ⟨w.heap.size, 3, none⟩ = some (.int .i64 t.np) := one6 HBv.out 3 (by omega)
  have p4 : wv.cell? ⟨w.heap.size, 4, none⟩ = some (.int .i64 t.ns) := one6 HBv.out 4 (by omega)
  have p5 : wv.cell? ⟨w.heap.size, 5, none⟩ = some (.slice A n c) := one6 HBv.out 5 (by omega)
  obtain ⟨hb, hhb⟩ : ∃ hb, hb = G.hb := ⟨_, rfl⟩
  obtain ⟨rb, hrb⟩ : ∃ rb, rb = G.rb := ⟨_, rfl⟩
  obtain ⟨m, hm⟩ : ∃ m, m = H.length := ⟨_, rfl⟩
  rw [← hhb] at d1 d2 ne1 ne2 ne3 ⊢
  rw [← hrb] at ne1 ne2 ne3 lr hRv d2
  rw [← hm] at d1 him h256
  rw [hm] at him h256
  have him' := him
  have h256' := h256
  rw [← hm] at him h256
  have HHB := Lib.hid hhb
  have HRB := Lib.hid hrb
  have hlt' := hlt
  have nb1 : hb ≠ b := fun e => ne1.1 e.symm
  have nb2 : g ≠ b := fun e => ne1.2.2 (e ▸ hgb)
  have nb3 : w.heap.size ≠ b := by omega
  have nb4 : w.heap.size + 1 ≠ b := by omega
  have nb5 : rb ≠ b := fun e => ne1.2.1 e.symm
  have nb6 : hb ≠ rb := ne3
  have nb7 : g ≠ rb := ne2.2.1
  have nb8 : b ≠ rb := ne1.2.1
  have nb9 : w.heap.size + 1 ≠ rb := by omega
  have nb9' : rb ≠ w.heap.size + 1 := by omega
  clear hHv h hpb hb' hgv hbm hgb ne1 ne2 ne3 hhb hrb hlt hm c2 HH2 HB2 HT2 HS2 HHL
  go_region_held3 (fun w' => w'.cell? ⟨hb, 1, none⟩ = some (.slice (some ⟨g, 0, none⟩) m cp) ∧ w'.cell? ⟨g, i, none⟩ = some (.pointer (some ⟨b, 0, none⟩)) ∧ w'.cell? ⟨w.heap.size, 0, none⟩ = some (.int .u64 t.row) ∧ w'.cell? ⟨w.heap.size, 1, none⟩ = some (.int .u64 t.xmin) ∧ w'.cell? ⟨w.heap.size, 2, none⟩ = some (.int .u64 t.xmax) ∧ w'.cell? ⟨w.heap.size, 3, none⟩ = some (.int .i64 t.np) ∧ w'.cell? ⟨w.heap.size, 4, none⟩ = some (.int .i64 t.ns) ∧ w'.cell? ⟨w.heap.size, 5, none⟩ = some (.slice A n c)) (first | with_reducible exact ⟨d1, dg, p0, p1, p2, p3, p4, p5⟩ | with_reducible exact ⟨e1, eg, q0, q1, q2, q3, q4, q5⟩ | go_keep)
    (first
     | (go_at_call 44; refine (pinsert_at (b := b) (L := L) (by exact HPB.out) t A n c HN.out HOK.out HRM.out (by exact HSv.out)).mono ?_; rintro e w3 ⟨rfl, hpb, hC⟩; have e1 := hC.cell (p := ⟨hb, 1, none⟩) (by exact d1) (by simpa using nb1); have e2 := hC.cell (p := ⟨hb, 2, none⟩) (by exact d2) (by simpa using nb1); have eg := hC.cell (p := ⟨g, i, none⟩) (by exact dg) (by simpa using nb2); have q0 := hC.cell (p := ⟨w.heap.size, 0, none⟩) (by exact p0) (by simpa using nb3); have q1 := hC.cell (p := ⟨w.heap.size, 1, none⟩) (by exact p1) (by simpa using nb3); have q2 := hC.cell (p := ⟨w.heap.size, 2, none⟩) (by exact p2) (by simpa using nb3); have q3 := hC.cell (p := ⟨w.heap.size, 3, none⟩) (by exact p3) (by simpa using nb3); have q4 := hC.cell (p := ⟨w.heap.size, 4, none⟩) (by exact p4) (by simpa using nb3); have q5 := hC.cell (p := ⟨w.heap.size, 5, none⟩) (by exact p5) (by simpa using nb3); have HP3 := Lib.hid hpb; have HR3 := Lib.hid (IsMap.chg (show IsMap wv.drew rb _ from hRv) hC (by simpa using nb5)); have HT3 := Lib.hid (hC.heap (k := w.heap.size + 1) (by exact HTv.out) (by simpa using nb4)); have HC3 : Hid (Chg [b] wv w3) := Lib.hid (Chg.trans (Chg.drew (Chg.refl [b] wv)) hC); clear hC hpb))
  clear p0 q0 p1 q1 p2 q2 p3 q3 p4 q4 p5 q5
  go_wp2_with (first | (go_at_call 45; refine (told_any e1 e2 him eg rfl nb6 nb7 HP3.out HR3.out).mono ?_; rintro e w4 ⟨rfl, hm4, hC4⟩; have HM4 := Lib.hid hm4; have HP4 := Lib.hid (HP3.out.chg hC4 (by simpa using nb8)); have HT4 := Lib.hid (hC4.heap (k := w.heap.size + 1) (by exact HT3.out) (by simpa using nb9)); have HC4 := Lib.hid hC4; have f0 : w4.frozen? ⟨w.heap.size + 1, 0, none⟩ = false := frozen_of_row w4 (w.heap.size + 1) 0 _ 53 HT4.out; have f1 : w4.frozen? ⟨w.heap.size + 1, 1, none⟩ = false := frozen_of_row w4 (w.heap.size + 1) 1 _ 53 HT4.out; have t0 := two0 HT4.out; have t1 := two1 HT4.out; clear hC4 hm4))
  refine bodyPost_ret (results_row_tmp rfl _ _ (w.heap.size + 1) _ _ rfl rfl (load53 (set2 HT4.out _ _))) rfl ?_
  have HC5 := chg2 (S := [b, rb, w.heap.size + 1]) (a := wv) ((HC3.out.mono (by simp)).trans (HC4.out.mono (by simp))) (.inl (by simp) : w.heap.size + 1 ∈ _ ∨ _) (.int .i64 i) (.int .i64 (freeSlot L))
  have HF := Chg.refl [w.heap.size + 1] w4 |> fun hh => chg2 hh (.inl (by simp) : w.heap.size + 1 ∈ _ ∨ _) (.int .i64 i) (.int .i64 (freeSlot L))
  have HP5 := HP4.out.chg HF (by simpa using nb4.symm)
  have HM5 := HM4.out.chg HF (by simpa using nb9')
  rw [HRB.out] at HC5 HM5
  rw [setNew_set (by omega) (by omega)] at HM5
  refine ⟨rfl, ?_, ?_⟩
  · refine HHv.out.turned HB'.out HC5 ?_ HP5 HM5
    intro x hx hxS
    have := hlt' x hx
    simp only [List.mem_cons, List.not_mem_nil, or_false] at hxS
    omega
  · refine ((HCa.out.trans HDv.out).mono (T := G.foot) (by simp)).trans' HC5 ?_
    intro x hx
    simp only [List.mem_cons, List.not_mem_nil, or_false] at hx
    rcases hx with rfl | rfl | rfl
    · exact .inl (mem_foot.2 (.inr (.inr (.inr (List.mem_of_getElem? HB'.out)))))
    · exact .inl (mem_foot.2 (.inr (.inl rfl)))
    · exact .inr (by omega)

set_option maxRecDepth 100000 in
set_option maxHeartbeats 4000000 in
theorem hinsert_full {w : World} {pl : Nat} {G : HG} {H : List PL} (h : HeapAt w pl G H) (hpool : PoolAt w pl 0) (t : Tup) (A : Option Addr) (n c i : Nat) (hn : n = t.data.length) (ho : t.Ok) (hsrc : Src1 w 1 (.slice A n c) n (bvals t.data))
    (hfo : findOk (H.map room) n = false) (hfp : findPos (H.map room) n = i) :
    Calls Try.prog 24 #[.pointer (some ⟨G.hb, 0, none⟩), .agg #[.int .u64 t.row, .int .u64 t.xmin, .int .u64 t.xmax, .int .i64 t.np, .int .i64 t.ns, .slice A n c]] w fun e w' => e = .returned (.tuple #[V53 0 0, .int .i64 12]) ∧ Chg [] w w' := by
  have hn200 : (n : Int) ≤ 474 := by have := ho.len; omega
  have HN := Lib.hid hn
  have HOK := Lib.hid ho
  have HSRC := Lib.hid hsrc
  have HPL := Lib.hid hpool
  clear hn ho hsrc hpool
  go_enter Try.func24, Try.ntmps24
  go_wp2_with fail
  generalize hwa : World.alloc _ _ = wa
  have HB0 : Hid (wa.heap[w.heap.size]? = some (.cells #[.int .u64 t.row, .int .u64 t.xmin, .int .u64 t.xmax, .int .i64 t.np, .int .i64 t.ns, .slice A n c] 59 (0, 0))) := Lib.hid (by rw [← hwa]; exact (Below.heap_alloc _ _ _ (by simp)).trans (heap_alloc_new w _))
  have HT0 : Hid (wa.heap[w.heap.size + 1]? = some (.cells #[.int .i64 0, .int .i64 0] 53 (0, 0))) := Lib.hid (by rw [← hwa]; exact heap_alloc2_new w _ _)
  have HCa : Hid (Chg [] w wa) := Lib.hid (by rw [← hwa]; exact ((Chg.refl [] w).alloc _).alloc _)
  have hsz : w.heap.size + 1 < wa.heap.size := lt_of_heap HT0.out
  have x0 : wa.cell? ⟨w.heap.size, 0, none⟩ = some (.int .u64 t.row) := one6 HB0.out 0 (by omega)
  have x1 : wa.cell? ⟨w.heap.size, 1, none⟩ = some (.int .u64 t.xmin) := one6 HB0.out 1 (by omega)
  have x2 : wa.cell? ⟨w.heap.size, 2, none⟩ = some (.int .u64 t.xmax) := one6 HB0.out 2 (by omega)
  have x3 : wa.cell? ⟨w.heap.size, 3, none⟩ = some (.int .i64 t.np) := one6 HB0.out 3 (by omega)
  have x4 : wa.cell? ⟨w.heap.size, 4, none⟩ = some (.int .i64 t.ns) := one6 HB0.out 4 (by omega)
  have x5 : wa.cell? ⟨w.heap.size, 5, none⟩ = some (.slice A n c) := one6 HB0.out 5 (by omega)
  clear hwa
  go_region_held3 (fun w' => w'.cell? ⟨w.heap.size, 0, none⟩ = some (.int .u64 t.row) ∧ w'.cell? ⟨w.heap.size, 1, none⟩ = some (.int .u64 t.xmin) ∧ w'.cell? ⟨w.heap.size, 2, none⟩ = some (.int .u64 t.xmax) ∧ w'.cell? ⟨w.heap.size, 3, none⟩ = some (.int .i64 t.np) ∧ w'.cell? ⟨w.heap.size, 4, none⟩ = some (.int .i64 t.ns) ∧ w'.cell? ⟨w.heap.size, 5, none⟩ = some (.slice A n c)) (first | with_reducible exact ⟨x0, x1, x2, x3, x4, x5⟩ | with_reducible exact ⟨y0, y1, y2, y3, y4, y5⟩ | with_reducible exact ⟨p0, p1, p2, p3, p4, p5⟩ | go_keep)
    (first
     | (go_at_call 43; refine (pnew_at _).mono ?_; rintro e w1 ⟨nb, rfl, hpg, hnb, hC⟩; have y0 := hC.cell (p := ⟨w.heap.size, 0, none⟩) (by exact x0) (by simp); have y1 := hC.cell (p := ⟨w.heap.size, 1, none⟩) (by exact x1) (by simp); have y2 := hC.cell (p := ⟨w.heap.size, 2, none⟩) (by exact x2) (by simp); have y3 := hC.cell (p := ⟨w.heap.size, 3, none⟩) (by exact x3) (by simp); have y4 := hC.cell (p := ⟨w.heap.size, 4, none⟩) (by exact x4) (by simp); have y5 := hC.cell (p := ⟨w.heap.size, 5, none⟩) (by exact x5) (by simp); have HPN := Lib.hid hpg; have HD1 : Hid (Chg [] wa w1) := Lib.hid (Chg.trans (Chg.drew (Chg.refl [] wa)) hC); have hnb2 : wa.heap.size ≤ nb := hnb; clear hpg hC hnb)
     | (go_at_call 44; refine (pinsert_at HPN.out t A n c HN.out HOK.out (by rw [room_new]; omega) (by exact HSRC.out.chg' (HCa.out.trans HD1.out))).mono ?_; rintro e w2 ⟨rfl, _, hC⟩; have p0 := hC.cell (p := ⟨w.heap.size, 0, none⟩) (by exact y0) (by simp; omega); have p1 := hC.cell (p := ⟨w.heap.size, 1, none⟩) (by exact y1) (by simp; omega); have p2 := hC.cell (p := ⟨w.heap.size, 2, none⟩) (by exact y2) (by simp; omega); have p3 := hC.cell (p := ⟨w.heap.size, 3, none⟩) (by exact y3) (by simp; omega); have p4 := hC.cell (p := ⟨w.heap.size, 4, none⟩) (by exact y4) (by simp; omega); have p5 := hC.cell (p := ⟨w.heap.size, 5, none⟩) (by exact y5) (by simp; omega); have HD2 : Hid (Chg [] wa w2) := Lib.hid (HD1.out.trans' hC (by simp; omega)); clear hC))
  clear x0 y0 x1 y1 x2 y2 x3 y3 x4 y4 x5 y5
  go_wp2_with fail
  have HH2 : Hid (HeapAt w2 pl G H) := Lib.hid (h.below (HCa.out.trans HD2.out) (by simp))
  have HB2 := Lib.hid (HD2.out.heap (k := w.heap.size) (by exact HB0.out) (by simp))
  have HT2 := Lib.hid (HD2.out.heap (k := w.heap.size + 1) (by exact HT0.out) (by simp))
  have HS2 : Hid (Src1 w2 1 (.slice A n c) n (bvals t.data)) := Lib.hid (HSRC.out.chg' (HCa.out.trans HD2.out))
  have hfc := fun (w : World) (hm : IsMap w G.rb (H.map room)) => find_any G.rb (H.map room) n w hm
  rw [hfo, hfp] at hfc
  have HFC := Lib.hid hfc
  have c2 := HH2.out.c2
  clear hfc hfo hfp
  go_quiet ((go_at_call 16; exact quiet_here (HFC.out _ (by exact HH2.out.rooms))))
  generalize hwv : w2.drewN _ = wv
  have HDv : Hid (Chg [] wa wv) := Lib.hid (by rw [← hwv]; exact HD2.out.drewN _)
  clear hwv
  have hHv := h.below (HCa.out.trans HDv.out) (by simp)
  have c0 := hHv.c0
  have HPv := Lib.hid (HPL.out.chg (HCa.out.trans HDv.out) (by simp))
  have HTv := Lib.hid (HDv.out.heap (k := w.heap.size + 1) (by exact HT0.out) (by simp))
  have f0 : wv.frozen? ⟨w.heap.size + 1, 0, none⟩ = false := frozen_of_row wv (w.heap.size + 1) 0 _ 53 HTv.out
  have f1 : wv.frozen? ⟨w.heap.size + 1, 1, none⟩ = false := frozen_of_row wv (w.heap.size + 1) 1 _ 53 HTv.out
  have t0 := two0 HTv.out
  have t1 := two1 HTv.out
  clear hHv h c2 HH2 HB2 HT2 HS2 p0 p1 p2 p3 p4 p5
  go_wp2_with (first | (go_at_call 28; refine (left_any pl 0 _ (by exact HPv.out)).mono ?_; rintro e w4 ⟨rfl, rfl⟩))
  refine bodyPost_ret (results_row_tmp rfl _ _ (w.heap.size + 1) _ _ rfl rfl (load53 (set2 HTv.out _ _))) rfl ?_
  exact ⟨rfl, chg2 (HCa.out.trans HDv.out) (.inr (by simp)) _ _⟩

theorem Try.info104 : (Try.prog.info? 104).map (fun i => (i.zero, i.size, i.bytes)) = some (some (.pointer none), 1, 8) := by kernel_rfl
theorem El100 : ElTy Try.prog 100 104 1 8 := by
  obtain ⟨i, hi, hz, hs, hb⟩ := info_parts Try.info104
  exact ⟨i, _, Try.underlying100, hi, hz, hs, hb, rfl, by omega⟩
section
variable {P : Program}
theorem step_app {w : World} {ops : Array Oper} {o : Oper} {a : Act} {K : Act → World → Prop} {Q : Exit → Act → World → Prop} {E : Prop} (hgd : o.guard = none) (s x : Operand) (t : TypeId)
    (ho : o.op = .call { callee := .builtin .append, args := #[s, x], argTypes := #[t, t] }) (e size bytes : Nat) (hT : ElTy P t e size bytes)
    (v : Value) (n : Nat) (xs : List Value) (hs : a.eval s = v) (hown : Own w e size v n xs)
    (vx : Value) (m : Nat) (news : List Value) (hx : a.eval x = vx) (hsrc : Src1 w size vx m news) (N : Nat) (XS : List Value) (hN : n + m = N) (hXS : xs ++ news = XS) (h63 : N ≤ maxLen) (hbytes : N * bytes ≤ 140737488355328)
    (hm : 0 < m)
    (h : ∀ A' c' w', App w w' e size v (.slice A' N c') N XS → K (a.put o.dst (.slice A' N c')) w') : if Region.wanted o (yielded ops a.tmps) = true then Oper.wp P o a w K Q else E := by
  have hw : Region.wanted o (yielded ops a.tmps) = true := by simp [Region.wanted, hgd]
  rw [if_pos hw]
  obtain ⟨i, z, ht, hi, hz, hsz, hby, hzs, h0⟩ := hT
  obtain ⟨hl, h1, hsrc⟩ := hsrc
  subst hN; subst hXS
  rcases hsrc with ⟨rfl, rfl⟩ | ⟨ad, c, rfl, hc⟩
  · omega
  · obtain ⟨v', w', hr, h2, h3, _, h5⟩ := run_append_own_at (P := P) w 0 t o.type e i z size bytes ht hi hz hsz hby hzs h0 v n xs hown ad m c news hl hc h1 h63 hbytes (Nat.zero_le _)
    unfold Oper.wp execOp
    simp only [ho, resolve, invoke, builtin, Sem.run_bind, Sem.run_pure, Result.andThen_ok, List.map_toArray, List.map_cons, List.map_nil, hs, hx, hr]
    obtain ⟨A', c', rfl⟩ := (show Own w' e size v' (n + m) (xs ++ news) from h2).form'
    refine h A' c' w' ⟨h2, Chg.of_grown h3, ?_⟩
    intro k hk
    rcases h5 with h5 | h5
    · exact .inl (h5 ▸ hk)
    · rw [h5] at hk
      injection hk with hk
      exact .inr (by omega)
end
theorem heap_grown {wy w5 w6 : World} {hb pl rb m b : Nat} {A0 A' : Option Addr} {cp0 c' : Nat} {ps : List Nat} (hhead : wy.heap[hb]? = some (.cells #[ptrV pl, .slice A0 m cp0, ptrV rb] 102 (0, 0))) (hC5 : Chg [] wy w5) (hpg : PageAt w5 b []) (hnb : wy.heap.size ≤ b)
    (hown : Own w5 104 1 (.slice A0 m cp0) m (ps.map ptrV)) (a6 : App (w5.alloc (.cells #[ptrV b] 104)) w6 104 1 (.slice A0 m cp0) (.slice A' (m + 1) c') (m + 1) (ps.map ptrV ++ [ptrV b])) (hne : hb ∉ (Value.slice A0 m cp0).ownBlock.toList) :
    (w6.setCell ⟨hb, 1, none⟩ (.slice A' (m + 1) c')).heap[hb]? = some (.cells #[ptrV pl, .slice A' (m + 1) c', ptrV rb] 102 (0, 0)) ∧ Own (w6.setCell ⟨hb, 1, none⟩ (.slice A' (m + 1) c')) 104 1 (.slice A' (m + 1) c') (m + 1) (ps.map ptrV ++ [ptrV b]) ∧ PageAt (w6.setCell ⟨hb, 1, none⟩ (.slice A' (m + 1) c')) b [] ∧ wy.heap.size ≤ b ∧ Chg (hb :: (Value.slice A0 m cp0).ownBlock.toList) wy (w6.setCell ⟨hb, 1, none⟩ (.slice A' (m + 1) c')) ∧ (∀ k, (Value.slice A' (m + 1) c').ownBlock = some k → (Value.slice A0 m cp0).ownBlock = some k ∨ wy.heap.size ≤ k) := by
  have hC6 : Chg (Value.slice A0 m cp0).ownBlock.toList wy w6 := ((hC5.alloc _).mono (by simp)).trans a6.chg
  have hhead6 := hC6.heap hhead hne
  have hset := heap_setCell_same w6 hb 1 _ 102 (.slice A' (m + 1) c') hhead6
  have hown6 : Own w6 104 1 (.slice A' (m + 1) c') (m + 1) (ps.map ptrV ++ [ptrV b]) := a6.own
  have hne6 := Own.ne hown6 hhead6 (by decide)
  obtain ⟨cs, hb5⟩ := hpg.block
  have hnb5 := Own.ne hown hb5 (by decide)
  have hpg6 : PageAt w6 b [] := (hpg.chg ((Chg.refl [] w5).alloc _) (by simp)).chg a6.chg (by rw [Option.mem_toList]; exact hnb5)
  have hCs := (Chg.refl [hb] w6).setCell (p := ⟨hb, 1, none⟩) (.inl (by simp)) (.slice A' (m + 1) c')
  have hhlt := lt_of_heap hhead
  refine ⟨hset, hown6.chg hCs (fun k hk => by simp; intro e; subst e; exact hne6 hk), hpg6.chg hCs (by simp; omega), hnb, (hC6.mono (fun x hx => List.mem_cons_of_mem _ hx)).trans (hCs.mono (by simp)), ?_⟩
  intro k hk
  rcases a6.at_ k hk with h1 | h1
  · exact .inl h1
  · have := hC5.size
    simp at h1
    exact .inr (by omega)

theorem heap_new_done {wy wc w' : World} {pl left b T : Nat} {G : HG} {H : List PL} {L : PL} {A0 A' : Option Addr} {cp0 c' : Nat} (h : HeapAt wy pl G H) (hp : PoolAt wy pl left) (hv : G.v = .slice A0 H.length cp0)
    (x1 : wc.heap[G.hb]? = some (.cells #[ptrV pl, .slice A' (H.length + 1) c', ptrV G.rb] 102 (0, 0))) (x2 : Own wc 104 1 (.slice A' (H.length + 1) c') (H.length + 1) (G.ptrs.map ptrV ++ [ptrV b])) (x4 : wy.heap.size ≤ b) (x3 : PageAt wc b [])
    (x5 : Chg (G.hb :: (Value.slice A0 H.length cp0).ownBlock.toList) wy wc) (x6 : ∀ k, (Value.slice A' (H.length + 1) c').ownBlock = some k → (Value.slice A0 H.length cp0).ownBlock = some k ∨ wy.heap.size ≤ k)
    (hC : Chg [b, G.rb, T] wc w') (hT : T ∉ pl :: G.foot) (hTl : T < wy.heap.size) (hpg : PageAt w' b L) (hm : IsMap w' G.rb ((H ++ [L]).map room)) :
    (∃ G' : HG, G'.hb = G.hb ∧ HeapAt w' pl G' (H ++ [L]) ∧ (∀ x, x ∈ G'.foot → x ∈ G.foot ∨ wy.heap.size ≤ x)) ∧ PoolAt w' pl left ∧ Chg (T :: pl :: G.foot) wy w' := by
  rw [← hv] at x5 x6
  have hlt := h.lt
  have hlhb := hlt _ (mem_foot.2 (.inl rfl))
  have hlrb := hlt _ (mem_foot.2 (.inr (.inl rfl)))
  have hplf := h.pl_ne hp
  have hpll := lt_of_heap hp
  have hTf : T ∉ G.foot := fun e => hT (List.mem_cons_of_mem _ e)
  have hTp : T ≠ pl := fun e => hT (by rw [e]; simp)
  have hThb : T ≠ G.hb := fun e => hTf (mem_foot.2 (.inl e))
  have hTrb : T ≠ G.rb := fun e => hTf (mem_foot.2 (.inr (.inl e)))
  have hrow : ∀ k, (Value.slice A' (H.length + 1) c').ownBlock = some k → k ∉ [b, G.rb, T] := by
    intro k hk hx
    simp only [List.mem_cons, List.not_mem_nil, or_false] at hx
    obtain ⟨cs, hb5⟩ := x3.block
    have e1 := Own.ne x2 hb5 (by decide)
    rcases hx with e | e | e
    · exact e1 (e ▸ hk)
    · rcases x6 k hk with h1 | h1
      · exact (h.row_ne h1).2.1 e
      · omega
    · rcases x6 k hk with h1 | h1
      · exact hTf (mem_foot.2 (.inr (.inr (.inl (e ▸ h1)))))
      · omega
  have hC2 : Chg (T :: pl :: G.foot) wy w' := by
    refine (x5.mono ?_).trans' hC ?_
    · intro x hx
      simp only [List.mem_cons, Option.mem_toList] at hx ⊢
      rcases hx with e | e
      · exact .inr (.inr (mem_foot.2 (.inl e)))
      · exact .inr (.inr (mem_foot.2 (.inr (.inr (.inl e)))))
    · intro x hx
      simp only [List.mem_cons, List.not_mem_nil, or_false] at hx ⊢
      rcases hx with e | e | e
      · exact .inr (by omega)
      · exact .inl (.inr (.inr (mem_foot.2 (.inr (.inl e)))))
      · exact .inl (.inl e)
  refine ⟨⟨⟨G.hb, G.rb, .slice A' (H.length + 1) c', G.ptrs ++ [b]⟩, rfl, ⟨?_, ?_, ?_, hm, ?_⟩, ?_⟩, ?_, hC2⟩
  · refine hC.heap x1 ?_
    simp only [List.mem_cons, List.not_mem_nil, or_false]
    have := h.hb_rb
    omega
  · rw [List.length_append, List.map_append]
    exact x2.chg hC hrow
  · rw [List.nodup_append]
    refine ⟨h.nodup, by simp, ?_⟩
    intro a ha c hc
    simp at hc
    have := hlt a (mem_foot.2 (.inr (.inr (.inr ha))))
    omega
  · intro i c Lc hi hL
    have hl := h.len
    by_cases hlt' : i < H.length
    · rw [List.getElem?_append_left (by omega)] at hi hL
      have hcm := List.mem_of_getElem? hi
      have hne := h.ptr_ne hcm
      have hcl := hlt c (mem_foot.2 (.inr (.inr (.inr hcm))))
      refine ((h.page i c Lc hi hL).chg x5 ?_).chg hC ?_
      · simp only [List.mem_cons, Option.mem_toList]
        intro e
        rcases e with e | e
        · exact hne.1 e
        · exact hne.2.2 e
      · simp only [List.mem_cons, List.not_mem_nil, or_false]
        intro e
        rcases e with e | e | e
        · omega
        · exact hne.2.1 e
        · exact hTf (mem_foot.2 (.inr (.inr (.inr (e ▸ hcm)))))
    · have h1 := getElem?_lt hL
      have : i = H.length := by simp at h1; omega
      subst this
      rw [List.getElem?_append_right (by omega), ← hl] at hi
      rw [List.getElem?_append_right (by omega)] at hL
      simp at hi hL
      subst hi; subst hL
      exact hpg
  · intro x hx
    rcases mem_foot.1 hx with e | e | e | e
    · exact .inl (mem_foot.2 (.inl e))
    · exact .inl (mem_foot.2 (.inr (.inl e)))
    · rcases x6 x e with h1 | h1
      · exact .inl (mem_foot.2 (.inr (.inr (.inl h1))))
      · exact .inr h1
    · simp at e
      rcases e with e | e
      · exact .inl (mem_foot.2 (.inr (.inr (.inr e))))
      · exact .inr (by omega)
  · refine (hp.chg x5 ?_).chg hC ?_
    · simp only [List.mem_cons, Option.mem_toList]
      intro e
      rcases e with e | e
      · exact hplf (mem_foot.2 (.inl e))
      · exact hplf (mem_foot.2 (.inr (.inr (.inl e))))
    · simp only [List.mem_cons, List.not_mem_nil, or_false]
      intro e
      rcases e with e | e | e
      · omega
      · exact hplf (mem_foot.2 (.inr (.inl e)))
      · exact hTp e.symm

set_option maxRecDepth 100000 in
set_option maxHeartbeats 4000000 in
theorem hinsert_new {w : World} {pl left : Nat} {G : HG} {H : List PL} (h : HeapAt w pl G H) (hpool : PoolAt w pl (left + 1)) (t : Tup) (A : Option Addr) (n c i : Nat) (hsd : ∀ k, (Value.slice A n c).ownBlock = some k → k ∉ pl :: G.foot) (hn : n = t.data.length) (ho : t.Ok) (hsrc : Src1 w 1 (.slice A n c) n (bvals t.data))
    (hfo : findOk (H.map room) n = false) (hfp : findPos (H.map room) n = i) (h256 : H.length + (left + 1) ≤ 256) :
    Calls Try.prog 24 #[.pointer (some ⟨G.hb, 0, none⟩), .agg #[.int .u64 t.row, .int .u64 t.xmin, .int .u64 t.xmax, .int .i64 t.np, .int .i64 t.ns, .slice A n c]] w fun e w' => e = .returned (.tuple #[V53 H.length 0, .int .i64 0]) ∧ (∃ G', G'.hb = G.hb ∧ HeapAt w' pl G' (H ++ [ins [] t]) ∧ (∀ x, x ∈ G'.foot → x ∈ G.foot ∨ w.heap.size ≤ x)) ∧ PoolAt w' pl left ∧ Chg (pl :: G.foot) w w' := by
  have hn200 : (n : Int) ≤ 474 := by have := ho.len; omega
  have HN := Lib.hid hn
  have HOK := Lib.hid ho
  have HSRC := Lib.hid hsrc
  have HPL := Lib.hid hpool
  have HSD := Lib.hid hsd
  have h0lt := h.lt
  clear hsd
  clear hn ho hsrc hpool
  go_enter Try.func24, Try.ntmps24
  go_wp2_with fail
  generalize hwa : World.alloc _ _ = wa
  have HB0 : Hid (wa.heap[w.heap.size]? = some (.cells #[.int .u64 t.row, .int .u64 t.xmin, .int .u64 t.xmax, .int .i64 t.np, .int .i64 t.ns, .slice A n c] 59 (0, 0))) := Lib.hid (by rw [← hwa]; exact (Below.heap_alloc _ _ _ (by simp)).trans (heap_alloc_new w _))
  have HT0 : Hid (wa.heap[w.heap.size + 1]? = some (.cells #[.int .i64 0, .int .i64 0] 53 (0, 0))) := Lib.hid (by rw [← hwa]; exact heap_alloc2_new w _ _)
  have HCa : Hid (Chg [] w wa) := Lib.hid (by rw [← hwa]; exact ((Chg.refl [] w).alloc _).alloc _)
  have hsz : w.heap.size + 1 < wa.heap.size := lt_of_heap HT0.out
  have x0 : wa.cell? ⟨w.heap.size, 0, none⟩ = some (.int .u64 t.row) := one6 HB0.out 0 (by omega)
  have x1 : wa.cell? ⟨w.heap.size, 1, none⟩ = some (.int .u64 t.xmin) := one6 HB0.out 1 (by omega)
  have x2 : wa.cell? ⟨w.heap.size, 2, none⟩ = some (.int .u64 t.xmax) := one6 HB0.out 2 (by omega)
  have x3 : wa.cell? ⟨w.heap.size, 3, none⟩ = some (.int .i64 t.np) := one6 HB0.out 3 (by omega)
  have x4 : wa.cell? ⟨w.heap.size, 4, none⟩ = some (.int .i64 t.ns) := one6 HB0.out 4 (by omega)
  have x5 : wa.cell? ⟨w.heap.size, 5, none⟩ = some (.slice A n c) := one6 HB0.out 5 (by omega)
  clear hwa
  go_region_held3 (fun w' => w'.cell? ⟨w.heap.size, 0, none⟩ = some (.int .u64 t.row) ∧ w'.cell? ⟨w.heap.size, 1, none⟩ = some (.int .u64 t.xmin) ∧ w'.cell? ⟨w.heap.size, 2, none⟩ = some (.int .u64 t.xmax) ∧ w'.cell? ⟨w.heap.size, 3, none⟩ = some (.int .i64 t.np) ∧ w'.cell? ⟨w.heap.size, 4, none⟩ = some (.int .i64 t.ns) ∧ w'.cell? ⟨w.heap.size, 5, none⟩ = some (.slice A n c)) (first | with_reducible exact ⟨x0, x1, x2, x3, x4, x5⟩ | with_reducible exact ⟨y0, y1, y2, y3, y4, y5⟩ | with_reducible exact ⟨p0, p1, p2, p3, p4, p5⟩ | go_keep)
    (first
     | (go_at_call 43; refine (pnew_at _).mono ?_; rintro e w1 ⟨nb, rfl, hpg, hnb, hC⟩; have y0 := hC.cell (p := ⟨w.heap.size, 0, none⟩) (by exact x0) (by simp); have y1 := hC.cell (p := ⟨w.heap.size, 1, none⟩) (by exact x1) (by simp); have y2 := hC.cell (p := ⟨w.heap.size, 2, none⟩) (by exact x2) (by simp); have y3 := hC.cell (p := ⟨w.heap.size, 3, none⟩) (by exact x3) (by simp); have y4 := hC.cell (p := ⟨w.heap.size, 4, none⟩) (by exact x4) (by simp); have y5 := hC.cell (p := ⟨w.heap.size, 5, none⟩) (by exact x5) (by simp); have HPN := Lib.hid hpg; have HD1 : Hid (Chg [] wa w1) := Lib.hid (Chg.trans (Chg.drew (Chg.refl [] wa)) hC); have hnb2 : wa.heap.size ≤ nb := hnb; clear hpg hC hnb)
     | (go_at_call 44; refine (pinsert_at HPN.out t A n c HN.out HOK.out (by rw [room_new]; omega) (by exact HSRC.out.chg' (HCa.out.trans HD1.out))).mono ?_; rintro e w2 ⟨rfl, _, hC⟩; have p0 := hC.cell (p := ⟨w.heap.size, 0, none⟩) (by exact y0) (by simp; omega); have p1 := hC.cell (p := ⟨w.heap.size, 1, none⟩) (by exact y1) (by simp; omega); have p2 := hC.cell (p := ⟨w.heap.size, 2, none⟩) (by exact y2) (by simp; omega); have p3 := hC.cell (p := ⟨w.heap.size, 3, none⟩) (by exact y3) (by simp; omega); have p4 := hC.cell (p := ⟨w.heap.size, 4, none⟩) (by exact y4) (by simp; omega); have p5 := hC.cell (p := ⟨w.heap.size, 5, none⟩) (by exact y5) (by simp; omega); have HD2 : Hid (Chg [] wa w2) := Lib.hid (HD1.out.trans' hC (by simp; omega)); clear hC))
  clear x0 y0 x1 y1 x2 y2 x3 y3 x4 y4 x5 y5
  go_wp2_with fail
  have HH2 : Hid (HeapAt w2 pl G H) := Lib.hid (h.below (HCa.out.trans HD2.out) (by simp))
  have HB2 := Lib.hid (HD2.out.heap (k := w.heap.size) (by exact HB0.out) (by simp))
  have HT2 := Lib.hid (HD2.out.heap (k := w.heap.size + 1) (by exact HT0.out) (by simp))
  have HS2 : Hid (Src1 w2 1 (.slice A n c) n (bvals t.data)) := Lib.hid (HSRC.out.chg' (HCa.out.trans HD2.out))
  have hfc := fun (w : World) (hm : IsMap w G.rb (H.map room)) => find_any G.rb (H.map room) n w hm
  rw [hfo, hfp] at hfc
  have HFC := Lib.hid hfc
  have c2 := HH2.out.c2
  clear hfc hfo hfp
  go_quiet ((go_at_call 16; exact quiet_here (HFC.out _ (by exact HH2.out.rooms))))
  generalize hwv : w2.drewN _ = wv
  have HDv : Hid (Chg [] wa wv) := Lib.hid (by rw [← hwv]; exact HD2.out.drewN _)
  clear hwv
  have hHv := h.below (HCa.out.trans HDv.out) (by simp)
  have HHv := Lib.hid hHv
  have c0 := hHv.c0
  have HPv := Lib.hid (HPL.out.chg (HCa.out.trans HDv.out) (by simp))
  have hplf := hHv.pl_ne HPv.out
  have hne : G.hb ≠ pl := fun e => hplf (mem_foot.2 (.inl e.symm))
  obtain ⟨q, hq⟩ : ∃ q : Int, q = ((left + 1 : Nat) : Int) := ⟨_, rfl⟩
  have pc : wv.cell? ⟨pl, 0, none⟩ = some (.int .i64 q) := by rw [hq, cell_of_row wv pl 0 _ _ _ HPv.out]; rfl
  have pf : wv.frozen? ⟨pl, 0, none⟩ = false := frozen_of_row wv pl 0 _ _ HPv.out
  have q0 : (q == 0) = false := by simp; omega
  have q1 : IntKind.i64.wrap (q - 1) = q - 1 := IntWalk.i64_in _ (by have := HPL.out; omega)
  have hl28 := left_any pl (left + 1) wv HPv.out
  rw [← hq] at hl28
  have HL28 := Lib.hid hl28
  have HQ := Lib.hid hq
  obtain ⟨A0, cp0, hv0⟩ := hHv.form
  have c1 := hHv.c1
  rw [hv0] at c1
  clear hHv h c2 HH2 HB2 HT2 HS2 hq hl28 p0 p1 p2 p3 p4 p5
  go_upto_region 12 with (first | (go_at_call 28; refine HL28.out.mono ?_; rintro e w4 ⟨rfl, rfl⟩))
  generalize hwy : World.setCell _ _ _ = wy
  have HCy : Hid (Chg [pl] wv wy) := Lib.hid (by rw [← hwy]; exact (Chg.refl _ _).setCell (.inl (by simp)) _)
  have HPy : Hid (PoolAt wy pl left) := Lib.hid (by
    rw [← hwy]
    have := heap_setCell_same wv pl 0 _ 99 (.int .i64 (q - 1)) HPv.out
    rw [show q - 1 = (left : Int) by rw [HQ.out]; omega] at this ⊢
    exact this)
  clear hwy
  have hHy : HeapAt wy pl G H := HHv.out.chg HCy.out (by intro x hx; simp; intro e; subst e; exact hplf hx)
  have HHy := Lib.hid hHy
  have k1 := hHy.c1
  rw [hv0] at k1
  have kf := hHy.free 1
  have hown := hHy.row
  rw [hv0] at hown
  have hbne : ∀ k, G.v.ownBlock = some k → G.hb ≠ k := fun k hk e => (hHy.row_ne hk).1 e.symm
  have hoB : G.v.ownBlock = (Value.slice A0 H.length cp0).ownBlock := by rw [hv0]
  have hhlt := lt_of_heap hHy.head
  have hm256 : H.length < 256 := by omega
  obtain ⟨hb, hhb⟩ : ∃ hb, hb = G.hb := ⟨_, rfl⟩
  obtain ⟨m, hm⟩ : ∃ m, m = H.length := ⟨_, rfl⟩
  have HEADy := Lib.hid hHy.head
  rw [hv0, ← hhb, ← hm] at HEADy
  rw [← hhb] at k1 kf hbne hhlt hne ⊢
  rw [← hm] at k1 hown hm256 hv0 hoB ⊢
  rw [hoB] at hbne
  have HBNE := Lib.hid hbne
  have HOWN := Lib.hid hown
  have HV0 := Lib.hid hv0
  have HHB := Lib.hid hhb
  have HM := Lib.hid hm
  have HOB := Lib.hid hoB
  clear hHy hv0 hown hhb hm hoB hbne c0 c1 pc pf
  go_cut [] (fun wx => ∃ b A' c', wx.heap[hb]? = some (.cells #[ptrV pl, .slice A' (m + 1) c', ptrV G.rb] 102 (0, 0)) ∧ Own wx 104 1 (.slice A' (m + 1) c') (m + 1) (G.ptrs.map ptrV ++ [ptrV b]) ∧ PageAt wx b [] ∧ wy.heap.size ≤ b ∧ Chg (hb :: (Value.slice A0 m cp0).ownBlock.toList) wy wx ∧ (∀ k, (Value.slice A' (m + 1) c').ownBlock = some k → (Value.slice A0 m cp0).ownBlock = some k ∨ wy.heap.size ≤ k))
  case first =>
    go_region_law (first
      | (refine step_app rfl (.tmp 63) (.tmp 65) 100 rfl 104 1 8 El100 (.slice A0 m cp0) m (G.ptrs.map ptrV) rfl (HOW5.out.alloc _) (.slice (some ⟨w5.heap.size, 0, none⟩) 1 1) 1 [ptrV b] rfl (Src1.one rfl) (m + 1) _ rfl rfl (by unfold maxLen; omega) (by omega) (by omega) ?_; intro A' c' w6 a6; have z1 := a6.chg.cell (p := ⟨hb, 1, none⟩) (HZ5.out _) HZN.out; have zf := a6.chg.free (p := ⟨hb, 1, none⟩) (HZL.out _) (HZF.out _) HZN.out; have HA6 := Lib.hid a6; clear a6)
      | (go_simp; go_at_call 43; refine (pnew_at _).mono ?_; rintro e w5 ⟨b, rfl, hpg, hnb, hC⟩; have y1 := hC.cell (p := ⟨hb, 1, none⟩) (by exact k1) (by simp); have HNB : Hid (wy.heap.size ≤ b) := Lib.hid hnb; have HC5 : Hid (Chg [] wy w5) := Lib.hid (Chg.trans (Chg.drew (Chg.refl [] wy)) hC); have HPG5 := Lib.hid hpg; have HOW5 : Hid (Own w5 104 1 (.slice A0 m cp0) m (G.ptrs.map ptrV)) := Lib.hid (HOWN.out.chg HC5.out (by simp)); have HZ5 : Hid (∀ o, (w5.alloc o).cell? ⟨hb, 1, none⟩ = some (.slice A0 m cp0)) := Lib.hid (fun o => ((Chg.refl [] w5).alloc o).cell y1 (by simp)); have y2 := HZ5.out; have HZF : Hid (∀ o, (w5.alloc o).frozen? ⟨hb, 1, none⟩ = false) := Lib.hid (fun o => (HC5.out.alloc o).free (by simpa using hhlt) kf (by simp)); have HZL : Hid (∀ o, hb < (w5.alloc o).heap.size) := Lib.hid (fun o => Nat.lt_of_lt_of_le hhlt (HC5.out.alloc o).size); have HZN : Hid (hb ∉ (Value.slice A0 m cp0).ownBlock.toList) := Lib.hid (by intro hx; rw [Option.mem_toList] at hx; exact HBNE.out hb hx rfl); clear hpg hnb hC))
    all_goals (go_wp2_with fail; go_meet; exact ⟨b, A', c', heap_grown HEADy.out HC5.out HPG5.out HNB.out HOW5.out HA6.out HZN.out⟩)
  case rest =>
    obtain ⟨b, A', c', x1, x2, x3, x4, x5, x6⟩ := hcut
    obtain ⟨g, hA⟩ : ∃ g, A' = some ⟨g, 0, none⟩ := by
      rcases x2.2 with ⟨_, h2⟩ | ⟨g, cap, cur, he, _⟩
      · omega
      · injection he with he1; exact ⟨g, he1⟩
    subst hA
    have hl := HHy.out.len
    have dg : wc.cell? ⟨g, m, none⟩ = some (.pointer (some ⟨b, 0, none⟩)) := by
      have := World.ownsRow.cells x2 (g := g) rfl m (.pointer (some ⟨b, 0, none⟩)) (by rw [List.getElem?_append_right (by simp; rw [hl, HM.out]; omega)]; simp [hl, HM.out, ptrV])
      rw [Go.WideShapes.add_plain] at this
      simpa using this
    have d1 : wc.cell? ⟨hb, 1, none⟩ = some (.slice (some ⟨g, 0, none⟩) (m + 1) c') := by rw [cell_of_row wc hb 1 _ _ _ x1]; rfl
    obtain ⟨rb, hrb⟩ : ∃ rb, rb = G.rb := ⟨_, rfl⟩
    have d2 : wc.cell? ⟨hb, 2, none⟩ = some (.pointer (some ⟨rb, 0, none⟩)) := by rw [hrb, cell_of_row wc hb 2 _ _ _ x1]; rfl
    have hHy := HHy.out
    have hrbf : G.rb ∉ hb :: (Value.slice A0 m cp0).ownBlock.toList := by
      simp only [List.mem_cons, Option.mem_toList]
      intro e
      rcases e with e | e
      · exact hHy.hb_rb (by rw [e, HHB.out])
      · rw [← HOB.out] at e; exact (hHy.row_ne e).2.1 rfl
    have hRv : IsMap wc rb (H.map room) := by rw [hrb]; exact hHy.rooms.chg x5 hrbf
    have hlt := hHy.lt
    have lr := hlt _ (mem_foot.2 (.inr (.inl rfl)))
    have s1 := HDv.out.size
    have s2 := HCy.out.size
    have hlw := h0lt
    obtain ⟨cs, hb5⟩ := x3.block
    have hRv2 := hRv
    obtain ⟨mf, hmf, _⟩ := hRv2
    have nb1 : hb ≠ b := by omega
    have nb2 : g ≠ b := fun e => Own.ne x2 hb5 (by decide) (by rw [e]; rfl)
    have nb3 : w.heap.size ≠ b := by omega
    have nb4 : w.heap.size + 1 ≠ b := by omega
    have nb5 : rb ≠ b := by omega
    have nb6 : hb ≠ rb := by rw [hrb, HHB.out]; exact hHy.hb_rb
    have nb7 : g ≠ rb := fun e => Own.ne x2 hmf (by decide) (by rw [e]; rfl)
    have nb8 : b ≠ rb := fun e => nb5 e.symm
    have hrbw : G.rb < w.heap.size := hlw _ (mem_foot.2 (.inr (.inl rfl)))
    have nb9 : w.heap.size + 1 ≠ rb := by omega
    have nb9' : rb ≠ w.heap.size + 1 := by omega
    have him : m < m + 1 := by omega
    have HPB := Lib.hid x3
    have hCall : Chg (pl :: G.foot) wa wc := by
      refine ((HDv.out.mono (T := pl :: G.foot) (by simp)).trans (HCy.out.mono (by simp))).trans (x5.mono ?_)
      intro x hx
      simp only [List.mem_cons, Option.mem_toList] at hx ⊢
      rcases hx with e | e
      · exact .inr (mem_foot.2 (.inl (by rw [e, HHB.out])))
      · rw [← HOB.out] at e; exact .inr (mem_foot.2 (.inr (.inr (.inl e))))
    have hnf : ∀ x, w.heap.size ≤ x → x ∉ pl :: G.foot := by
      intro x hx hm
      rcases List.mem_cons.1 hm with e | e
      · have := lt_of_heap HPL.out; omega
      · have := hlw x e; omega
    have HBv := Lib.hid (hCall.heap (k := w.heap.size) (by exact HB0.out) (hnf _ (Nat.le_refl _)))
    have HTv := Lib.hid (hCall.heap (k := w.heap.size + 1) (by exact HT0.out) (hnf _ (by omega)))
    have HSv : Hid (Src1 wc 1 (.slice A n c) n (bvals t.data)) := Lib.hid ((HSRC.out.chg' HCa.out).off hCall HSD.out)
    have HRM : Hid ((n : Int) ≤ room []) := Lib.hid (by rw [room_new]; exact hn200)
    have HX1 := Lib.hid x1
    have HX2 := Lib.hid x2
    have HX4 := Lib.hid x4
    have HX5 := Lib.hid x5
    have HX6 := Lib.hid x6
    have HRB := Lib.hid hrb
    have HALL := Lib.hid hCall
    have HNF := Lib.hid hnf
    have HSZ : Hid (wa.heap.size ≤ wy.heap.size) := Lib.hid (by omega)
    have HLW := Lib.hid hlw
    have HRV := Lib.hid hRv
    obtain ⟨M, hMM⟩ : ∃ M, M = m + 1 := ⟨_, rfl⟩
    rw [← hMM] at d1 him
    clear x1 x2 x4 x5 x6 hrb hCall hnf hlw hlt lr s1 s2 hb5 hmf hl hHy hrbf hrbw hMM
    have p0 : wc.cell? ⟨w.heap.size, 0, none⟩ = some (.int .u64 t.row) := one6 HBv.out 0 (by omega)
    have p1 : wc.cell? ⟨w.heap.size, 1, none⟩ = some (.int .u64 t.xmin) := one6 HBv.out 1 (by omega)
    have p2 : wc.cell? ⟨w.heap.size, 2, none⟩ = some (.int .u64 t.xmax) := one6 HBv.out 2 (by omega)
    have p3 : wc.cell? ⟨w.heap.size, 3, none⟩ = some (.int .i64 t.np) := one6 HBv.out 3 (by omega)
    have p4 : wc.cell? ⟨w.heap.size, 4, none⟩ = some (.int .i64 t.ns) := one6 HBv.out 4 (by omega)
    have p5 : wc.cell? ⟨w.heap.size, 5, none⟩ = some (.slice A n c) := one6 HBv.out 5 (by omega)
    go_wp2_with fail
    go_region_held3 (fun w' => w'.cell? ⟨hb, 1, none⟩ = some (.slice (some ⟨g, 0, none⟩) M c') ∧ w'.cell? ⟨g, m, none⟩ = some (.pointer (some ⟨b, 0, none⟩)) ∧ w'.cell? ⟨w.heap.size, 0, none⟩ = some (.int .u64 t.row) ∧ w'.cell? ⟨w.heap.size, 1, none⟩ = some (.int .u64 t.xmin) ∧ w'.cell? ⟨w.heap.size, 2, none⟩ = some (.int .u64 t.xmax) ∧ w'.cell? ⟨w.heap.size, 3, none⟩ = some (.int .i64 t.np) ∧ w'.cell? ⟨w.heap.size, 4, none⟩ = some (.int .i64 t.ns) ∧ w'.cell? ⟨w.heap.size, 5, none⟩ = some (.slice A n c)) (first | with_reducible exact ⟨d1, dg, p0, p1, p2, p3, p4, p5⟩ | with_reducible exact ⟨e1, eg, q0, q1, q2, q3, q4, q5⟩ | go_keep)
      (first
       | (go_at_call 44; refine (pinsert_at (b := b) (L := []) (by exact HPB.out) t A n c HN.out HOK.out HRM.out (by exact HSv.out)).mono ?_; rintro e w3 ⟨rfl, hpb, hC⟩; have e1 := hC.cell (p := ⟨hb, 1, none⟩) (by exact d1) (by simpa using nb1); have e2 := hC.cell (p := ⟨hb, 2, none⟩) (by exact d2) (by simpa using nb1); have eg := hC.cell (p := ⟨g, m, none⟩) (by exact dg) (by simpa using nb2); have q0 := hC.cell (p := ⟨w.heap.size, 0, none⟩) (by exact p0) (by simpa using nb3); have q1 := hC.cell (p := ⟨w.heap.size, 1, none⟩) (by exact p1) (by simpa using nb3); have q2 := hC.cell (p := ⟨w.heap.size, 2, none⟩) (by exact p2) (by simpa using nb3); have q3 := hC.cell (p := ⟨w.heap.size, 3, none⟩) (by exact p3) (by simpa using nb3); have q4 := hC.cell (p := ⟨w.heap.size, 4, none⟩) (by exact p4) (by simpa using nb3); have q5 := hC.cell (p := ⟨w.heap.size, 5, none⟩) (by exact p5) (by simpa using nb3); have HP3 := Lib.hid hpb; have HR3 := Lib.hid (IsMap.chg (show IsMap wc.drew rb _ from HRV.out) hC (by simpa using nb5)); have HT3 := Lib.hid (hC.heap (k := w.heap.size + 1) (by exact HTv.out) (by simpa using nb4)); have HC3 : Hid (Chg [b] wc w3) := Lib.hid (Chg.trans (Chg.drew (Chg.refl [b] wc)) hC); clear hC hpb))
    clear p0 q0 p1 q1 p2 q2 p3 q3 p4 q4 p5 q5
    go_wp2_with (first | (go_at_call 45; refine (told_any e1 e2 him eg rfl nb6 nb7 HP3.out HR3.out).mono ?_; rintro e w4 ⟨rfl, hm4, hC4⟩; have HM4 := Lib.hid hm4; have HP4 := Lib.hid (HP3.out.chg hC4 (by simpa using nb8)); have HT4 := Lib.hid (hC4.heap (k := w.heap.size + 1) (by exact HT3.out) (by simpa using nb9)); have HC4 := Lib.hid hC4; have f0 : w4.frozen? ⟨w.heap.size + 1, 0, none⟩ = false := frozen_of_row w4 (w.heap.size + 1) 0 _ 53 HT4.out; have f1 : w4.frozen? ⟨w.heap.size + 1, 1, none⟩ = false := frozen_of_row w4 (w.heap.size + 1) 1 _ 53 HT4.out; have t0 := two0 HT4.out; have t1 := two1 HT4.out; clear hC4 hm4))
    refine bodyPost_ret (results_row_tmp rfl _ _ (w.heap.size + 1) _ _ rfl rfl (load53 (set2 HT4.out _ _))) rfl ?_
    have HC5 := chg2 (S := [b, rb, w.heap.size + 1]) (a := wc) ((HC3.out.mono (by simp)).trans (HC4.out.mono (by simp))) (.inl (by simp) : w.heap.size + 1 ∈ _ ∨ _) (.int .i64 m) (.int .i64 (freeSlot []))
    have HF := Chg.refl [w.heap.size + 1] w4 |> fun hh => chg2 hh (.inl (by simp) : w.heap.size + 1 ∈ _ ∨ _) (.int .i64 m) (.int .i64 (freeSlot []))
    have HP5 := HP4.out.chg HF (by simpa using nb4.symm)
    have HM5 := HM4.out.chg HF (by simpa using nb9')
    have hme := HM.out
    have hhbe := HHB.out
    have hrbe := HRB.out
    subst hme hhbe hrbe
    rw [setNew_app (by omega)] at HM5
    have hdone := heap_new_done (T := w.heap.size + 1) HHy.out HPy.out HV0.out HX1.out HX2.out HX4.out HPB.out HX5.out HX6.out HC5 (HNF.out _ (by omega)) (by have := HSZ.out; omega) HP5 HM5
    obtain ⟨⟨G', e1, hH, hf⟩, hp', hch⟩ := hdone
    have s0 := HCa.out.size
    have sz := HSZ.out
    refine ⟨rfl, ⟨G', e1, hH, fun x hx => (hf x hx).imp id (fun h => by omega)⟩, hp', ?_⟩
    have hwy : Chg (pl :: G.foot) w wy := ((HCa.out.trans HDv.out).mono (by simp)).trans (HCy.out.mono (by simp))
    refine hwy.trans' hch ?_
    intro x hx
    rcases List.mem_cons.1 hx with e | e
    · exact .inr (by omega)
    · exact .inl e

end Go.Proofs.Yteokjaocnemmlaa
