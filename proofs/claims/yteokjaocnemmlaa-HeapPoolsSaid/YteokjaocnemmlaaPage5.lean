/-
  The walks of package page: unpack, Get.
-/
import Derived.Test.YteokjaocnemmlaaPage4
import Derived.Deep.RegionHeld3
namespace Go.Proofs.Yteokjaocnemmlaa
open Go.RowKit
/-- The number of n bytes from a on. -/
def leF (f : Nat → Int) (a n : Nat) : Int := le (fun i => f (a + i)) n
theorem numf_any (p off n cap t N : Nat) (f : Nat → Int) (w : World) (hn : n ≤ 8) (hf : Bytes f N) (hN : off + n ≤ N) (hp : w.heap[p]? = some (ints .u8 t N f)) :
    Calls Try.prog 81 #[.slice (some ⟨p, off, none⟩) n cap] w fun e w' => e = .returned (.int .u64 (leF f off n)) ∧ w = w' :=
  num_any p off n cap (fun i => f (off + i)) w hn (bytes_of hf hN) (cells_of hp hN)
theorem clone_at (b off c m : Nat) (l : List Int) (w : World) (hm : l.length = m) (hl : m ≤ 1000) (hc : ∀ j u, (bvals l)[j]? = some u → w.cell? ⟨b, off + j, none⟩ = some u) :
    Calls Try.prog 83 #[.slice (some ⟨b, off, none⟩) m c] w fun e w' => ∃ A c', e = .returned (.slice A m c') ∧ Cloned w w' (.slice A m c') l := by
  subst hm
  exact clone_any b off c l w hl hc
theorem bvals_at {w : World} {p off m : Nat} {f : Nat → Int} {l : List Int} (hp : Lies w p f) (ho : off + m ≤ 512) (hm : l.length = m) (hl : ∀ i, i < m → f (off + i) = l.getD i 0) :
    ∀ j u, (bvals l)[j]? = some u → w.cell? ⟨p, off + j, none⟩ = some u := by
  intro j u hu
  have hj : j < l.length := by
    have := getElem?_lt hu
    simpa [bvals] using this
  rw [ints_cell hp (by omega), hl j (by omega)]
  rw [← hu]
  simp [bvals, hj]

theorem one6 {w : World} {g t : Nat} {v0 v1 v2 v3 v4 v5 : Value} (h : w.heap[g]? = some (.cells #[v0, v1, v2, v3, v4, v5] t (0, 0))) (i : Nat) (hi : i < 6) : w.cell? ⟨g, i, none⟩ = some (#[v0, v1, v2, v3, v4, v5][i]) := by
  rw [cell_of_row w g i _ _ _ h, Array.getElem?_eq_getElem hi]
theorem set6 {w : World} {g t : Nat} {v0 v1 v2 v3 v4 v5 : Value} (h : w.heap[g]? = some (.cells #[v0, v1, v2, v3, v4, v5] t (0, 0))) (u0 u1 u2 u3 u4 u5 : Value) :
    ((((((w.setCell ⟨g, 0, none⟩ u0).setCell ⟨g, 1, none⟩ u1).setCell ⟨g, 2, none⟩ u2).setCell ⟨g, 3, none⟩ u3).setCell ⟨g, 4, none⟩ u4).setCell ⟨g, 5, none⟩ u5).heap[g]? = some (.cells #[u0, u1, u2, u3, u4, u5] t (0, 0)) := by
  have a0 := heap_setCell_same w g 0 _ t u0 h
  have a1 := heap_setCell_same _ g 1 _ t u1 a0
  have a2 := heap_setCell_same _ g 2 _ t u2 a1
  have a3 := heap_setCell_same _ g 3 _ t u3 a2
  have a4 := heap_setCell_same _ g 4 _ t u4 a3
  have a5 := heap_setCell_same _ g 5 _ t u5 a4
  exact a5
theorem chg6 {S : List Nat} {a w : World} {g : Nat} (h : Chg S a w) (hg : g ∈ S ∨ a.heap.size ≤ g) (u0 u1 u2 u3 u4 u5 : Value) :
    Chg S a ((((((w.setCell ⟨g, 0, none⟩ u0).setCell ⟨g, 1, none⟩ u1).setCell ⟨g, 2, none⟩ u2).setCell ⟨g, 3, none⟩ u3).setCell ⟨g, 4, none⟩ u4).setCell ⟨g, 5, none⟩ u5) :=
  (((((h.setCell hg u0).setCell hg u1).setCell hg u2).setCell hg u3).setCell hg u4).setCell hg u5

set_option maxRecDepth 100000 in
set_option maxHeartbeats 2000000 in
theorem unpack_any (p a z m c : Nat) (f : Nat → Int) (l : List Int) (w : World) (hf : Bytes f 512) (hp : Lies w p f) (ha : a + z ≤ 512) (hm : l.length = m) (hzm : z - 30 = m) (hz : 30 ≤ z) (hc0 : z ≤ c) (hc3 : ¬ (c = 30)) (hl : ∀ i, i < m → f (a + 30 + i) = l.getD i 0)
    (hnp : 0 ≤ leF f (a + 24) 4 ∧ leF f (a + 24) 4 ≤ 65536) (hns : 0 ≤ leF f (a + 28) 2 ∧ leF f (a + 28) 2 ≤ 65536) :
    Calls Try.prog 80 #[.slice (some ⟨p, a, none⟩) z c] w fun e w' => ∃ A c', e = .returned (.agg #[.int .u64 (leF f a 8), .int .u64 (leF f (a + 8) 8), .int .u64 (leF f (a + 16) 8), .int .i64 (leF f (a + 24) 4 - 1), .int .i64 (leF f (a + 28) 2 - 1), .slice A m c']) ∧ Cloned w w' (.slice A m c') l := by
  have n1 := hnp.1
  have n2 := hnp.2
  have n3 := hns.1
  have n4 := hns.2
  have hlt := lt_of_heap hp
  have q1 : (30 : Int) ≤ (z : Int) := by omega
  have q2 : (30 : Int) ≤ (c : Int) := by omega
  have q3 : (8 : Int) ≤ (c : Int) := by omega
  have q4 : (16 : Int) ≤ (c : Int) := by omega
  have q5 : (24 : Int) ≤ (c : Int) := by omega
  have q6 : (28 : Int) ≤ (c : Int) := by omega
  have k1 : ¬ (c = 8) := by omega
  have k2 : ¬ (c = 16) := by omega
  have k3 : ¬ (c = 24) := by omega
  have k4 : ¬ (c = 28) := by omega
  have e1 : IntKind.i64.wrap (leF f (a + 24) 4) = leF f (a + 24) 4 := IntWalk.i64_in _ (by omega)
  have e2 : IntKind.i64.wrap (leF f (a + 28) 2) = leF f (a + 28) 2 := IntWalk.i64_in _ (by omega)
  have e3 : IntKind.i64.wrap (leF f (a + 24) 4 - 1) = leF f (a + 24) 4 - 1 := IntWalk.i64_in _ (by omega)
  have e4 : IntKind.i64.wrap (leF f (a + 28) 2 - 1) = leF f (a + 28) 2 - 1 := IntWalk.i64_in _ (by omega)
  have hb := bvals_at (off := a + 30) hp (by omega) hm hl
  have HB := Lib.hid hb
  have HP := Lib.hid hp
  have HMM := Lib.hid hm
  clear hnp hns hb hp hl hm
  go_enter Try.func80, Try.ntmps80
  go_wp2_with fail
  generalize hwa : w.alloc _ = wa
  have c0 : ∀ i, i < 6 → wa.frozen? ⟨w.heap.size, i, none⟩ = false := by rw [← hwa]; intro i hi; simp
  have z0 : wa.frozen? ⟨w.heap.size, 0, none⟩ = false := c0 0 (by omega)
  have z1 : wa.frozen? ⟨w.heap.size, 1, none⟩ = false := c0 1 (by omega)
  have z2 : wa.frozen? ⟨w.heap.size, 2, none⟩ = false := c0 2 (by omega)
  have z3 : wa.frozen? ⟨w.heap.size, 3, none⟩ = false := c0 3 (by omega)
  have z4 : wa.frozen? ⟨w.heap.size, 4, none⟩ = false := c0 4 (by omega)
  have z5 : wa.frozen? ⟨w.heap.size, 5, none⟩ = false := c0 5 (by omega)
  clear c0
  have HG : Hid (wa.heap[w.heap.size]? = some (.cells #[.int .u64 0, .int .u64 0, .int .u64 0, .int .i64 0, .int .i64 0, .slice none 0 0] 59 (0, 0))) := Lib.hid (by rw [← hwa]; exact heap_alloc_new w _)
  have hCa : Chg [] w wa := by rw [← hwa]; exact (Chg.refl _ _).alloc _
  have HCa := Lib.hid hCa
  clear hCa
  have HPa : Hid (Lies wa p f) := Lib.hid (by rw [← hwa]; exact (Below.heap_alloc _ _ _ hlt).trans HP.out)
  have HBa : Hid (∀ j u, (bvals l)[j]? = some u → wa.cell? ⟨p, a + 30 + j, none⟩ = some u) := Lib.hid (by rw [← hwa]; exact fun j u hu => by rw [World.cell?_alloc_lt _ _ _ (World.block_lt_of_cell? _ _ (HB.out j u hu))]; exact HB.out j u hu)
  have hsz : w.heap.size < wa.heap.size := by rw [← hwa]; simp
  clear hwa
  go_region_held3 (fun _ => True) (trivial)
    (first
     | (go_at_call 81; refine (numf_any p _ _ _ 134 512 f _ (by omega) hf (by omega) (by exact HPa.out)).mono ?_; rintro e w0 ⟨rfl, rfl⟩)
     | (go_at_call 83; refine (clone_at p (a + 30) _ m l _ HMM.out (by omega) (by exact HBa.out)).mono ?_; rintro e w' ⟨A, c', rfl, hcl⟩; have x0 := hcl.2.1.cell (p := ⟨w.heap.size, 0, none⟩) (one6 (by exact HG.out) 0 (by omega)) (by simp); have u0 := hcl.2.1.free (p := ⟨w.heap.size, 0, none⟩) hsz z0 (by simp); have x1 := hcl.2.1.cell (p := ⟨w.heap.size, 1, none⟩) (one6 (by exact HG.out) 1 (by omega)) (by simp); have u1 := hcl.2.1.free (p := ⟨w.heap.size, 1, none⟩) hsz z1 (by simp); have x2 := hcl.2.1.cell (p := ⟨w.heap.size, 2, none⟩) (one6 (by exact HG.out) 2 (by omega)) (by simp); have u2 := hcl.2.1.free (p := ⟨w.heap.size, 2, none⟩) hsz z2 (by simp); have x3 := hcl.2.1.cell (p := ⟨w.heap.size, 3, none⟩) (one6 (by exact HG.out) 3 (by omega)) (by simp); have u3 := hcl.2.1.free (p := ⟨w.heap.size, 3, none⟩) hsz z3 (by simp); have x4 := hcl.2.1.cell (p := ⟨w.heap.size, 4, none⟩) (one6 (by exact HG.out) 4 (by omega)) (by simp); have u4 := hcl.2.1.free (p := ⟨w.heap.size, 4, none⟩) hsz z4 (by simp); have x5 := hcl.2.1.cell (p := ⟨w.heap.size, 5, none⟩) (one6 (by exact HG.out) 5 (by omega)) (by simp); have u5 := hcl.2.1.free (p := ⟨w.heap.size, 5, none⟩) hsz z5 (by simp); have HCL := Lib.hid hcl; have HG1 := Lib.hid (hcl.2.1.heap (k := w.heap.size) (by exact HG.out) (by simp)); have HC1 := Lib.hid (hcl.2.1.below (B := wa.heap.size) (Nat.le_refl _) (by simp)); clear hcl))
  go_wp2
  refine bodyPost_ret (results_cell_row rfl _ _ _ 59 #[.int .u64 (leF f a 8), .int .u64 (leF f (a + 8) 8), .int .u64 (leF f (a + 16) 8), .int .i64 (leF f (a + 24) 4 - 1), .int .i64 (leF f (a + 28) 2 - 1), .slice A m c'] (0, 0) _ rfl ?_ Try.underlying59 rfl (by kernel_rfl)) rfl ?_
  · have := set6 HG1.out (.int .u64 (leF f a 8)) (.int .u64 (leF f (a + 8) 8)) (.int .u64 (leF f (a + 16) 8)) (.int .i64 (leF f (a + 24) 4 - 1)) (.int .i64 (leF f (a + 28) 2 - 1)) (.slice A m c')
    exact this
  · refine ⟨A, c', rfl, ?_⟩
    obtain ⟨h1, h2, h3⟩ := HCL.out
    refine ⟨?_, ?_, fun k hk => ?_⟩
    · exact Own.chg h1 (chg6 (Chg.refl [w.heap.size] _) (by simp) _ _ _ _ _ _) (fun k hk => by have := h3 k hk; simp at this ⊢; omega)
    · exact chg6 (HCa.out.drew.trans h2) (.inr (Nat.le_refl _)) _ _ _ _ _ _
    · have := h3 k hk; simp at this ⊢; omega
set_option maxRecDepth 100000 in
set_option maxHeartbeats 2000000 in
theorem unpack_edge (p a : Nat) (f : Nat → Int) (w : World) (hf : Bytes f 512) (hp : Lies w p f) (ha : a + 30 ≤ 512)
    (hnp : 0 ≤ leF f (a + 24) 4 ∧ leF f (a + 24) 4 ≤ 65536) (hns : 0 ≤ leF f (a + 28) 2 ∧ leF f (a + 28) 2 ≤ 65536) :
    Calls Try.prog 80 #[.slice (some ⟨p, a, none⟩) 30 30] w fun e w' => ∃ A c', e = .returned (.agg #[.int .u64 (leF f a 8), .int .u64 (leF f (a + 8) 8), .int .u64 (leF f (a + 16) 8), .int .i64 (leF f (a + 24) 4 - 1), .int .i64 (leF f (a + 28) 2 - 1), .slice A 0 c']) ∧ Cloned w w' (.slice A 0 c') [] := by
  have n1 := hnp.1
  have n2 := hnp.2
  have n3 := hns.1
  have n4 := hns.2
  have hlt := lt_of_heap hp
  have e1 : IntKind.i64.wrap (leF f (a + 24) 4) = leF f (a + 24) 4 := IntWalk.i64_in _ (by omega)
  have e2 : IntKind.i64.wrap (leF f (a + 28) 2) = leF f (a + 28) 2 := IntWalk.i64_in _ (by omega)
  have e3 : IntKind.i64.wrap (leF f (a + 24) 4 - 1) = leF f (a + 24) 4 - 1 := IntWalk.i64_in _ (by omega)
  have e4 : IntKind.i64.wrap (leF f (a + 28) 2 - 1) = leF f (a + 28) 2 - 1 := IntWalk.i64_in _ (by omega)
  have HP := Lib.hid hp
  clear hnp hns hp
  go_enter Try.func80, Try.ntmps80
  go_wp2_with fail
  generalize hwa : w.alloc _ = wa
  have c0 : ∀ i, i < 6 → wa.frozen? ⟨w.heap.size, i, none⟩ = false := by rw [← hwa]; intro i hi; simp
  have z0 : wa.frozen? ⟨w.heap.size, 0, none⟩ = false := c0 0 (by omega)
  have z1 : wa.frozen? ⟨w.heap.size, 1, none⟩ = false := c0 1 (by omega)
  have z2 : wa.frozen? ⟨w.heap.size, 2, none⟩ = false := c0 2 (by omega)
  have z3 : wa.frozen? ⟨w.heap.size, 3, none⟩ = false := c0 3 (by omega)
  have z4 : wa.frozen? ⟨w.heap.size, 4, none⟩ = false := c0 4 (by omega)
  have z5 : wa.frozen? ⟨w.heap.size, 5, none⟩ = false := c0 5 (by omega)
  clear c0
  have HG : Hid (wa.heap[w.heap.size]? = some (.cells #[.int .u64 0, .int .u64 0, .int .u64 0, .int .i64 0, .int .i64 0, .slice none 0 0] 59 (0, 0))) := Lib.hid (by rw [← hwa]; exact heap_alloc_new w _)
  have hCa : Chg [] w wa := by rw [← hwa]; exact (Chg.refl _ _).alloc _
  have HCa := Lib.hid hCa
  clear hCa
  have HPa : Hid (Lies wa p f) := Lib.hid (by rw [← hwa]; exact (Below.heap_alloc _ _ _ hlt).trans HP.out)
  have hsz : w.heap.size < wa.heap.size := by rw [← hwa]; simp
  clear hwa
  go_region_held3 (fun _ => True) (trivial)
    (first
     | (go_at_call 81; refine (numf_any p _ _ _ 134 512 f _ (by omega) hf (by omega) (by exact HPa.out)).mono ?_; rintro e w0 ⟨rfl, rfl⟩)
     | (go_at_call 83; refine (clone_at p a _ 0 [] _ rfl (by omega) (by simp [bvals])).mono ?_; rintro e w' ⟨A, c', rfl, hcl⟩; have x0 := hcl.2.1.cell (p := ⟨w.heap.size, 0, none⟩) (one6 (by exact HG.out) 0 (by omega)) (by simp); have u0 := hcl.2.1.free (p := ⟨w.heap.size, 0, none⟩) hsz z0 (by simp); have x1 := hcl.2.1.cell (p := ⟨w.heap.size, 1, none⟩) (one6 (by exact HG.out) 1 (by omega)) (by simp); have u1 := hcl.2.1.free (p := ⟨w.heap.size, 1, none⟩) hsz z1 (by simp); have x2 := hcl.2.1.cell (p := ⟨w.heap.size, 2, none⟩) (one6 (by exact HG.out) 2 (by omega)) (by simp); have u2 := hcl.2.1.free (p := ⟨w.heap.size, 2, none⟩) hsz z2 (by simp); have x3 := hcl.2.1.cell (p := ⟨w.heap.size, 3, none⟩) (one6 (by exact HG.out) 3 (by omega)) (by simp); have u3 := hcl.2.1.free (p := ⟨w.heap.size, 3, none⟩) hsz z3 (by simp); have x4 := hcl.2.1.cell (p := ⟨w.heap.size, 4, none⟩) (one6 (by exact HG.out) 4 (by omega)) (by simp); have u4 := hcl.2.1.free (p := ⟨w.heap.size, 4, none⟩) hsz z4 (by simp); have x5 := hcl.2.1.cell (p := ⟨w.heap.size, 5, none⟩) (one6 (by exact HG.out) 5 (by omega)) (by simp); have u5 := hcl.2.1.free (p := ⟨w.heap.size, 5, none⟩) hsz z5 (by simp); have HCL := Lib.hid hcl; have HG1 := Lib.hid (hcl.2.1.heap (k := w.heap.size) (by exact HG.out) (by simp)); have HC1 := Lib.hid (hcl.2.1.below (B := wa.heap.size) (Nat.le_refl _) (by simp)); clear hcl))
  go_wp2
  refine bodyPost_ret (results_cell_row rfl _ _ _ 59 #[.int .u64 (leF f a 8), .int .u64 (leF f (a + 8) 8), .int .u64 (leF f (a + 16) 8), .int .i64 (leF f (a + 24) 4 - 1), .int .i64 (leF f (a + 28) 2 - 1), .slice A 0 c'] (0, 0) _ rfl ?_ Try.underlying59 rfl (by kernel_rfl)) rfl ?_
  · have := set6 HG1.out (.int .u64 (leF f a 8)) (.int .u64 (leF f (a + 8) 8)) (.int .u64 (leF f (a + 16) 8)) (.int .i64 (leF f (a + 24) 4 - 1)) (.int .i64 (leF f (a + 28) 2 - 1)) (.slice A 0 c')
    exact this
  · refine ⟨A, c', rfl, ?_⟩
    obtain ⟨h1, h2, h3⟩ := HCL.out
    refine ⟨?_, ?_, fun k hk => ?_⟩
    · exact Own.chg h1 (chg6 (Chg.refl [w.heap.size] _) (by simp) _ _ _ _ _ _) (fun k hk => by have := h3 k hk; simp at this ⊢; omega)
    · exact chg6 (HCa.out.drew.trans h2) (.inr (Nat.le_refl _)) _ _ _ _ _ _
    · have := h3 k hk; simp at this ⊢; omega

/-! ### Get -/
/-- Two results, the first in a block. -/
theorem results_row_tmp {fn : Func} {p u : Tmp} {ty : TypeId} (h : fn.results = #[.cell p ty, .tmp u]) (tmps : Array Value) {P : Program} (w : World) (g : Nat) (cs : Array Value) (v : Value)
    (hp : tmps.getD p undef = .pointer (some ⟨g, 0, none⟩)) (hv : tmps.getD u undef = v) (hl : (loadVar ty ⟨g, 0, none⟩).run P w = .ok (.agg cs) w) :
    (results fn tmps).run P w = .ok (.tuple #[.agg cs, v]) w := by
  rw [results_cell_tmp h, hp, hv]
  simp [asAddr, hl, Result.andThen]
/-- A version in a block is read whole. -/
theorem load59 {w : World} {g : Nat} {v0 v1 v2 v3 v4 v5 : Value} (hg : w.heap[g]? = some (.cells #[v0, v1, v2, v3, v4, v5] 59 (0, 0))) : (loadVar 59 ⟨g, 0, none⟩).run Try.prog w = .ok (.agg #[v0, v1, v2, v3, v4, v5]) w :=
  run_loadVar_row w g 59 59 _ (0, 0) _ hg Try.underlying59 rfl (by kernel_rfl)

/-- A version as a value; its data are v. -/
def Tup.val (t : Tup) (v : Value) : Value := .agg #[.int .u64 t.row, .int .u64 t.xmin, .int .u64 t.xmax, .int .i64 t.np, .int .i64 t.ns, v]
theorem leF_of {f : Nat → Int} {a n : Nat} {x : Int} (h : ∀ i, i < n → f (a + i) = byteAt x i) (h0 : 0 ≤ x) (h1 : x < 256 ^ n) : leF f a n = x := by
  unfold leF
  rw [le_congr h, le_byteAt n x h0 h1]
section
variable {f : Nat → Int} {a : Nat} {t : Tup}
theorem ver_row (hd : ∀ i, i < t.size → f (a + i) = packB t i) (ho : t.Ok) : leF f a 8 = t.row := by
  have hz := t.size_lo
  exact leF_of (fun i hi => by rw [hd i (by omega)]; unfold packB; rw [if_pos hi]) ho.row.1 (by have := ho.row.2; omega)
theorem ver_xmin (hd : ∀ i, i < t.size → f (a + i) = packB t i) (ho : t.Ok) : leF f (a + 8) 8 = t.xmin := by
  have hz := t.size_lo
  exact leF_of (fun i hi => by rw [Nat.add_assoc, hd (8 + i) (by omega)]; unfold packB; rw [if_neg (by omega), if_pos (by omega), Nat.add_sub_cancel_left]) ho.xmin.1 (by have := ho.xmin.2; omega)
theorem ver_xmax (hd : ∀ i, i < t.size → f (a + i) = packB t i) (ho : t.Ok) : leF f (a + 16) 8 = t.xmax := by
  have hz := t.size_lo
  exact leF_of (fun i hi => by rw [Nat.add_assoc, hd (16 + i) (by omega)]; unfold packB; rw [if_neg (by omega), if_neg (by omega), if_pos (by omega), Nat.add_sub_cancel_left]) ho.xmax.1 (by have := ho.xmax.2; omega)
theorem ver_np (hd : ∀ i, i < t.size → f (a + i) = packB t i) (ho : t.Ok) : leF f (a + 24) 4 = t.np + 1 := by
  have hz := t.size_lo
  have hf := farB_false ho.far
  exact leF_of (fun i hi => by rw [Nat.add_assoc, hd (24 + i) (by omega)]; unfold packB; rw [if_neg (by omega), if_neg (by omega), if_neg (by omega), if_pos (by omega), Nat.add_sub_cancel_left]) (by omega) (by omega)
theorem ver_ns (hd : ∀ i, i < t.size → f (a + i) = packB t i) (ho : t.Ok) : leF f (a + 28) 2 = t.ns + 1 := by
  have hz := t.size_lo
  have hf := farB_false ho.far
  exact leF_of (fun i hi => by rw [Nat.add_assoc, hd (28 + i) (by omega)]; unfold packB; rw [if_neg (by omega), if_neg (by omega), if_neg (by omega), if_neg (by omega), if_pos (by omega), Nat.add_sub_cancel_left]) (by omega) (by omega)
theorem ver_data (hd : ∀ i, i < t.size → f (a + i) = packB t i) : ∀ i, i < t.data.length → f (a + 30 + i) = t.data.getD i 0 := by
  intro i hi
  rw [Nat.add_assoc, hd (30 + i) (by unfold Tup.size; omega)]
  unfold packB
  rw [if_neg (by omega), if_neg (by omega), if_neg (by omega), if_neg (by omega), if_neg (by omega), Nat.add_sub_cancel_left]
end

/-- unpack, of a version's bytes. -/
theorem unpack_ver (p a : Nat) (f : Nat → Int) (t : Tup) (w : World) (hf : Bytes f 512) (hp : Lies w p f) (ha : a + t.size ≤ 512) (ho : t.Ok) (hd : ∀ i, i < t.size → f (a + i) = packB t i) :
    Calls Try.prog 80 #[.slice (some ⟨p, a, none⟩) t.size (512 - a)] w fun e w' => ∃ A c', e = .returned (t.val (.slice A t.data.length c')) ∧ Cloned w w' (.slice A t.data.length c') t.data := by
  have hz := t.size_lo
  have hfar := farB_false ho.far
  have e1 := ver_row hd ho
  have e2 := ver_xmin hd ho
  have e3 := ver_xmax hd ho
  have e4 := ver_np hd ho
  have e5 := ver_ns hd ho
  unfold Tup.val
  by_cases hc : 512 - a = 30
  · have hz3 : t.size = 30 := by omega
    have hl : t.data = [] := by
      unfold Tup.size at hz3
      exact List.eq_nil_of_length_eq_zero (by omega)
    have := unpack_edge p a f w hf hp (by omega) (by omega) (by omega)
    rw [e1, e2, e3, e4, e5] at this
    rw [hc, hz3, hl]
    simpa using this
  · have := unpack_any p a t.size t.data.length (512 - a) f t.data w hf hp ha rfl (by unfold Tup.size; omega) hz (by omega) hc (ver_data hd) (by omega) (by omega)
    rw [e1, e2, e3, e4, e5] at this
    simpa using this

/-- What Get leaves. -/
def GotOf (w w' : World) (t : Tup) (e : Ending) : Prop := ∃ A c', e = .returned (.tuple #[t.val (.slice A t.data.length c'), .bool true]) ∧ Cloned w w' (.slice A t.data.length c') t.data
def zeroTup : Value := .agg #[.int .u64 0, .int .u64 0, .int .u64 0, .int .i64 0, .int .i64 0, .slice none 0 0]
def GotNone (w w' : World) (e : Ending) : Prop := e = .returned (.tuple #[zeroTup, .bool false]) ∧ Chg [] w w'

theorem get_val_none (q : Option Addr) (s : Int) (w : World) (hb : ∀ w0, Chg [] w w0 → Hid (Calls Try.prog 73 #[.pointer q, .int .i64 s] w0 fun e w' => e = .returned (.slice none 0 0) ∧ ∃ n, w' = w0.drewN n)) :
    Calls Try.prog 63 #[.pointer q, .int .i64 s] w fun e w' => GotNone w w' e := by
  have eq0 := @Lib.run_eql_slice_nil Try.prog
  have HB := Lib.hid hb
  clear hb
  go_enter Try.func63, Try.ntmps63
  go_wp2_with (first | (go_at_call 73; refine (HB.out _ ((Chg.refl _ _).alloc _)).out.mono ?_; rintro e w' ⟨rfl, n, rfl⟩))
  refine bodyPost_ret (results_row_tmp rfl _ _ w.heap.size _ _ rfl rfl (load59 (set6 (heap_alloc_new w _) _ _ _ _ _ _))) rfl ?_
  exact ⟨rfl, chg6 (((Chg.refl [] w).alloc _).drewN n) (.inr (Nat.le_refl _)) _ _ _ _ _ _⟩

end Go.Proofs.Yteokjaocnemmlaa
