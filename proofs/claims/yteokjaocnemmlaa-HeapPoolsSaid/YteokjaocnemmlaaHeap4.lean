/-
  The walks of package heap: Get, Stamp, Free.
-/
import Derived.Test.YteokjaocnemmlaaHeap3
namespace Go.Proofs.Yteokjaocnemmlaa
open Go.RowKit

/-- To a world with the same blocks and streams. -/
theorem Chg.same {S : List Nat} {a w : World} (h : Chg S a w) {t : Nat} : Chg S a { w with drawn := t } := ⟨h.os, h.tape, h.output, h.size, h.block⟩

set_option maxRecDepth 100000 in
set_option maxHeartbeats 4000000 in
theorem get_heap_of (hv q : Value) (pg s : Int) (t : Tup) (w : World)
    (hp : ∀ w0, Chg [] w w0 → Hid (Calls Try.prog 46 #[hv, .int .i64 pg] w0 fun e w' => e = .returned q ∧ w0 = w'))
    (hg : ∀ w0, Chg [] w w0 → Hid (Calls Try.prog 63 #[q, .int .i64 s] w0 fun e w' => GotOf w0 w' t e)) :
    Calls Try.prog 42 #[hv, .agg #[.int .i64 pg, .int .i64 s]] w fun e w' => GotOf w w' t e := by
  have HPG := Lib.hid hp
  have HGT := Lib.hid hg
  clear hp hg
  go_enter Try.func42, Try.ntmps42
  go_wp2_with fail
  generalize hwa : World.alloc _ _ = wa
  have HG1 : Hid (wa.heap[w.heap.size + 1]? = some (.cells #[.int .u64 0, .int .u64 0, .int .u64 0, .int .i64 0, .int .i64 0, .slice none 0 0] 59 (0, 0))) := Lib.hid (by rw [← hwa]; exact heap_alloc2_new w _ _)
  have HG0 : Hid (wa.heap[w.heap.size]? = some (.cells #[.int .i64 pg, .int .i64 s] 53 (0, 0))) := Lib.hid (by rw [← hwa]; exact (Below.heap_alloc _ _ _ (by simp)).trans (heap_alloc_new w _))
  have HCa : Hid (Chg [] w wa) := Lib.hid (by rw [← hwa]; exact ((Chg.refl [] w).alloc _).alloc _)
  have hsz : w.heap.size + 1 < wa.heap.size := lt_of_heap HG1.out
  have z0 : wa.frozen? ⟨w.heap.size + 1, 0, none⟩ = false := frozen_of_row wa (w.heap.size + 1) 0 _ 59 HG1.out
  have z1 : wa.frozen? ⟨w.heap.size + 1, 1, none⟩ = false := frozen_of_row wa (w.heap.size + 1) 1 _ 59 HG1.out
  have z2 : wa.frozen? ⟨w.heap.size + 1, 2, none⟩ = false := frozen_of_row wa (w.heap.size + 1) 2 _ 59 HG1.out
  have z3 : wa.frozen? ⟨w.heap.size + 1, 3, none⟩ = false := frozen_of_row wa (w.heap.size + 1) 3 _ 59 HG1.out
  have z4 : wa.frozen? ⟨w.heap.size + 1, 4, none⟩ = false := frozen_of_row wa (w.heap.size + 1) 4 _ 59 HG1.out
  have z5 : wa.frozen? ⟨w.heap.size + 1, 5, none⟩ = false := frozen_of_row wa (w.heap.size + 1) 5 _ 59 HG1.out
  have b0 := two0 HG0.out
  have b1 := two1 HG0.out
  clear hwa
  go_region_held3 (fun w' => w'.cell? ⟨w.heap.size, 0, none⟩ = some (.int .i64 pg) ∧ w'.cell? ⟨w.heap.size, 1, none⟩ = some (.int .i64 s)) (first | with_reducible exact ⟨b0, b1⟩ | with_reducible exact ⟨y0, y1⟩ | go_keep)
    (first
     | (go_at_call 46; refine (HPG.out _ (by exact HCa.out.same)).out.mono ?_; rintro e w' ⟨rfl, rfl⟩)
     | (go_at_call 63; refine (HGT.out _ (by exact HCa.out.same)).out.mono ?_; rintro e w' ⟨A, c', rfl, hcl⟩; have hC := hcl.2.1; have y0 := hC.cell (p := ⟨w.heap.size, 0, none⟩) (by exact b0) (by simp); have y1 := hC.cell (p := ⟨w.heap.size, 1, none⟩) (by exact b1) (by simp); have x0 := hC.cell (p := ⟨w.heap.size + 1, 0, none⟩) (one6 (by exact HG1.out) 0 (by omega)) (by simp); have u0 := hC.free (p := ⟨w.heap.size + 1, 0, none⟩) hsz z0 (by simp); have x1 := hC.cell (p := ⟨w.heap.size + 1, 1, none⟩) (one6 (by exact HG1.out) 1 (by omega)) (by simp); have u1 := hC.free (p := ⟨w.heap.size + 1, 1, none⟩) hsz z1 (by simp); have x2 := hC.cell (p := ⟨w.heap.size + 1, 2, none⟩) (one6 (by exact HG1.out) 2 (by omega)) (by simp); have u2 := hC.free (p := ⟨w.heap.size + 1, 2, none⟩) hsz z2 (by simp); have x3 := hC.cell (p := ⟨w.heap.size + 1, 3, none⟩) (one6 (by exact HG1.out) 3 (by omega)) (by simp); have u3 := hC.free (p := ⟨w.heap.size + 1, 3, none⟩) hsz z3 (by simp); have x4 := hC.cell (p := ⟨w.heap.size + 1, 4, none⟩) (one6 (by exact HG1.out) 4 (by omega)) (by simp); have u4 := hC.free (p := ⟨w.heap.size + 1, 4, none⟩) hsz z4 (by simp); have x5 := hC.cell (p := ⟨w.heap.size + 1, 5, none⟩) (one6 (by exact HG1.out) 5 (by omega)) (by simp); have u5 := hC.free (p := ⟨w.heap.size + 1, 5, none⟩) hsz z5 (by simp); have HCL := Lib.hid hcl; have HG2 := Lib.hid (hC.heap (k := w.heap.size + 1) (by exact HG1.out) (by simp)); clear hC hcl; unfold Tup.val))
  go_wp2
  refine bodyPost_ret (results_row_tmp rfl _ _ (w.heap.size + 1) _ _ rfl rfl (load59 (set6 HG2.out _ _ _ _ _ _))) rfl ?_
  refine ⟨A, c', rfl, ?_⟩
  obtain ⟨h1, h2, h3⟩ := HCL.out
  refine ⟨?_, ?_, fun k hk => ?_⟩
  · exact Own.chg h1 (chg6 (Chg.refl [w.heap.size + 1] _) (by simp) _ _ _ _ _ _) (fun k hk => by have := h3 k hk; simp at this ⊢; omega)
  · exact chg6 (HCa.out.drew.trans h2) (.inr (by simp)) _ _ _ _ _ _
  · have := h3 k hk; have h5 := HCa.out.size; simp at this ⊢; omega

set_option maxRecDepth 100000 in
set_option maxHeartbeats 4000000 in
theorem get_heap_none (hv q : Value) (pg s : Int) (w : World)
    (hp : ∀ w0, Chg [] w w0 → Hid (Calls Try.prog 46 #[hv, .int .i64 pg] w0 fun e w' => e = .returned q ∧ w0 = w'))
    (hg : ∀ w0, Chg [] w w0 → Hid (Calls Try.prog 63 #[q, .int .i64 s] w0 fun e w' => GotNone w0 w' e)) :
    Calls Try.prog 42 #[hv, .agg #[.int .i64 pg, .int .i64 s]] w fun e w' => GotNone w w' e := by
  have HPG := Lib.hid hp
  have HGT := Lib.hid hg
  clear hp hg
  go_enter Try.func42, Try.ntmps42
  go_wp2_with fail
  generalize hwa : World.alloc _ _ = wa
  have HG1 : Hid (wa.heap[w.heap.size + 1]? = some (.cells #[.int .u64 0, .int .u64 0, .int .u64 0, .int .i64 0, .int .i64 0, .slice none 0 0] 59 (0, 0))) := Lib.hid (by rw [← hwa]; exact heap_alloc2_new w _ _)
  have HG0 : Hid (wa.heap[w.heap.size]? = some (.cells #[.int .i64 pg, .int .i64 s] 53 (0, 0))) := Lib.hid (by rw [← hwa]; exact (Below.heap_alloc _ _ _ (by simp)).trans (heap_alloc_new w _))
  have HCa : Hid (Chg [] w wa) := Lib.hid (by rw [← hwa]; exact ((Chg.refl [] w).alloc _).alloc _)
  have hsz : w.heap.size + 1 < wa.heap.size := lt_of_heap HG1.out
  have z0 : wa.frozen? ⟨w.heap.size + 1, 0, none⟩ = false := frozen_of_row wa (w.heap.size + 1) 0 _ 59 HG1.out
  have z1 : wa.frozen? ⟨w.heap.size + 1, 1, none⟩ = false := frozen_of_row wa (w.heap.size + 1) 1 _ 59 HG1.out
  have z2 : wa.frozen? ⟨w.heap.size + 1, 2, none⟩ = false := frozen_of_row wa (w.heap.size + 1) 2 _ 59 HG1.out
  have z3 : wa.frozen? ⟨w.heap.size + 1, 3, none⟩ = false := frozen_of_row wa (w.heap.size + 1) 3 _ 59 HG1.out
  have z4 : wa.frozen? ⟨w.heap.size + 1, 4, none⟩ = false := frozen_of_row wa (w.heap.size + 1) 4 _ 59 HG1.out
  have z5 : wa.frozen? ⟨w.heap.size + 1, 5, none⟩ = false := frozen_of_row wa (w.heap.size + 1) 5 _ 59 HG1.out
  have b0 := two0 HG0.out
  have b1 := two1 HG0.out
  clear hwa
  go_region_held3 (fun w' => w'.cell? ⟨w.heap.size, 0, none⟩ = some (.int .i64 pg) ∧ w'.cell? ⟨w.heap.size, 1, none⟩ = some (.int .i64 s)) (first | with_reducible exact ⟨b0, b1⟩ | with_reducible exact ⟨y0, y1⟩ | go_keep)
    (first
     | (go_at_call 46; refine (HPG.out _ (by exact HCa.out.same)).out.mono ?_; rintro e w' ⟨rfl, rfl⟩)
     | (go_at_call 63; refine (HGT.out _ (by exact HCa.out.same)).out.mono ?_; rintro e w' ⟨rfl, hC⟩; have y0 := hC.cell (p := ⟨w.heap.size, 0, none⟩) (by exact b0) (by simp); have y1 := hC.cell (p := ⟨w.heap.size, 1, none⟩) (by exact b1) (by simp); have x0 := hC.cell (p := ⟨w.heap.size + 1, 0, none⟩) (one6 (by exact HG1.out) 0 (by omega)) (by simp); have u0 := hC.free (p := ⟨w.heap.size + 1, 0, none⟩) hsz z0 (by simp); have x1 := hC.cell (p := ⟨w.heap.size + 1, 1, none⟩) (one6 (by exact HG1.out) 1 (by omega)) (by simp); have u1 := hC.free (p := ⟨w.heap.size + 1, 1, none⟩) hsz z1 (by simp); have x2 := hC.cell (p := ⟨w.heap.size + 1, 2, none⟩) (one6 (by exact HG1.out) 2 (by omega)) (by simp); have u2 := hC.free (p := ⟨w.heap.size + 1, 2, none⟩) hsz z2 (by simp); have x3 := hC.cell (p := ⟨w.heap.size + 1, 3, none⟩) (one6 (by exact HG1.out) 3 (by omega)) (by simp); have u3 := hC.free (p := ⟨w.heap.size + 1, 3, none⟩) hsz z3 (by simp); have x4 := hC.cell (p := ⟨w.heap.size + 1, 4, none⟩) (one6 (by exact HG1.out) 4 (by omega)) (by simp); have u4 := hC.free (p := ⟨w.heap.size + 1, 4, none⟩) hsz z4 (by simp); have x5 := hC.cell (p := ⟨w.heap.size + 1, 5, none⟩) (one6 (by exact HG1.out) 5 (by omega)) (by simp); have u5 := hC.free (p := ⟨w.heap.size + 1, 5, none⟩) hsz z5 (by simp); have HCL := Lib.hid hC; have HG2 := Lib.hid (hC.heap (k := w.heap.size + 1) (by exact HG1.out) (by simp)); clear hC; unfold zeroTup))
  go_wp2
  refine bodyPost_ret (results_row_tmp rfl _ _ (w.heap.size + 1) _ _ rfl rfl (load59 (set6 HG2.out _ _ _ _ _ _))) rfl ?_
  exact ⟨rfl, chg6 (HCa.out.drew.trans HCL.out) (.inr (by simp)) _ _ _ _ _ _⟩
end Go.Proofs.Yteokjaocnemmlaa
