/-
  The walks of the reference's Cut and Few: a version that isn't too long, apart; its bytes lie in a new block.
-/
import Derived.Test.YteokjaocnemmlaaHeap9
import Derived.Laws.OwnMore
namespace Go.Proofs.Yteokjaocnemmlaa
open Go.RowKit

/-- Bytes that came in: a slice, nil or not, reads as l. -/
def InBytes (w : World) (A : Option Addr) (n : Nat) (l : List Int) : Prop :=
  l.length = n ∧ ∀ j u, (bvals l)[j]? = some u → ∃ b off, A = some ⟨b, off, none⟩ ∧ w.cell? ⟨b, off + j, none⟩ = some u
theorem InBytes.src {w : World} {A : Option Addr} {n c m : Nat} {l : List Int} (h : InBytes w A n l) (hA : A = none → m = 0) (hm : m ≤ n) (o : Obj) : Src1 (w.alloc o) 1 (if A = none then .slice none 0 0 else .slice A m c) m (bvals (l.take m)) := by
  refine ⟨by simp [bvals, h.1]; omega, bvals_one _, ?_⟩
  cases A with
  | none => exact .inl ⟨rfl, hA rfl⟩
  | some a =>
    refine .inr ⟨a, c, by simp, fun j u hu => ?_⟩
    have hu' : (bvals l)[j]? = some u := by
      unfold bvals at hu ⊢
      rw [List.getElem?_map, List.getElem?_take] at hu
      split at hu
      · rw [List.getElem?_map]; exact hu
      · cases hu
    obtain ⟨b, off, ha, hc⟩ := h.2 j u hu'
    injection ha with ha
    subst ha
    rw [Go.WideShapes.add_plain]
    rwa [World.cell?_alloc_lt _ _ _ (World.block_lt_of_cell? _ _ hc)]

set_option maxRecDepth 100000 in
set_option maxHeartbeats 1000000 in
theorem cut_any (A : Option Addr) (n c : Nat) (l : List Int) (w : World) (h : InBytes w A n l) (hA : A = none → n = 0 ∧ c = 0) (hnc : n ≤ c) (hc : c ≤ maxLen) :
    Calls Try.prog 48 #[.slice A n c, .int .i64 230] w fun e w' => ∃ A' m c', e = .returned (.slice A' m c') ∧ m = min n 230 ∧ Cloned w w' (.slice A' m c') (l.take 230) := by
  unfold maxLen at hc
  have own0 : Own (w.alloc (.cells #[] 5)) 5 1 (.slice (some ⟨w.heap.size, 0, none⟩) 0 0) 0 [] := World.ownsRow_lit w #[] 0 (Nat.zero_le _) (by decide) rfl
  obtain ⟨m, hm⟩ : ∃ m, m = min n 230 := ⟨_, rfl⟩
  have hlen : (l.take 230).length = m := by rw [List.length_take, h.1, Nat.min_comm, hm]
  have htk : l.take m = l.take 230 := by
    have hl := h.1
    rw [hm]
    by_cases hle : n ≤ 230
    · rw [Nat.min_eq_left hle, List.take_of_length_le (by omega : l.length ≤ n), List.take_of_length_le (by omega)]
    · rw [Nat.min_eq_right (by omega)]
  have src0 := h.src (c := c) (m := m) (fun e => by have := hA e; omega) (by omega) (.cells #[] 5)
  rw [htk] at src0
  have key : ∀ A' c' w', App (w.alloc (.cells #[] 5)) w' 5 1 (.slice (some ⟨w.heap.size, 0, none⟩) 0 0) (.slice A' m c') m (bvals (l.take 230)) → Cloned w w' (.slice A' m c') (l.take 230) := by
    intro A' c' w' h
    refine ⟨by unfold IsBytes; rw [hlen]; exact h.own, ?_, fun k hk => ?_⟩
    · have := ((Chg.refl [] w).alloc (.cells #[] 5)).trans' h.chg (by simp [Value.ownBlock])
      exact this
    · rcases h.at_ k hk with h1 | h1
      · simp [Value.ownBlock] at h1; omega
      · simp at h1; omega
  have OWN0 := Lib.hid own0
  have SRC0 := Lib.hid src0
  have KEY := Lib.hid key
  have HM := Lib.hid hm
  have C1 : Hid (m ≤ maxLen) := Lib.hid (by unfold maxLen; omega)
  have C2 : Hid (m * 1 ≤ 140737488355328) := Lib.hid (by omega)
  have mmi : min (n : Int) 230 = (m : Int) := by omega
  have hmn : (m : Int) ≤ (n : Int) := by omega
  have hmc : (m : Int) ≤ (c : Int) := by omega
  clear own0 src0 key hlen htk h
  cases A with
  | none =>
    obtain ⟨rfl, rfl⟩ := hA rfl
    obtain rfl : m = 0 := by omega
    clear hA hm
    go_enter Try.func48, Try.ntmps48
    go_wp2_with (at_builtin; refine wpList_app rfl (.tmp 5) (.tmp 11) 57 rfl 5 1 1 El57 (.slice (some ⟨w.heap.size, 0, none⟩) 0 0) 0 [] rfl OWN0.out (.slice none 0 0) 0 (bvals (l.take 230)) rfl SRC0.out 0 (bvals (l.take 230)) rfl rfl C1.out C2.out ?_; intro A6 c6 w6 a6; have HA6 := Lib.hid a6; clear a6)
    go_ret
    exact ⟨_, _, _, rfl, HM.out, KEY.out _ _ _ HA6.out⟩
  | some a =>
    clear hA hm
    go_enter Try.func48, Try.ntmps48
    go_wp2_with (at_builtin; refine wpList_app rfl (.tmp 5) (.tmp 11) 57 rfl 5 1 1 El57 (.slice (some ⟨w.heap.size, 0, none⟩) 0 0) 0 [] rfl OWN0.out (.slice (some a) m c) m (bvals (l.take 230)) rfl SRC0.out m (bvals (l.take 230)) (Nat.zero_add _) rfl C1.out C2.out ?_; intro A6 c6 w6 a6; have HA6 := Lib.hid a6; clear a6)
    go_ret
    exact ⟨_, _, _, rfl, HM.out, KEY.out _ _ _ HA6.out⟩

theorem InBytes.chg {w w' : World} {S : List Nat} {A : Option Addr} {n : Nat} {l : List Int} (h : InBytes w A n l) (hC : Chg S w w') (hS : ∀ x, x ∈ S → w.heap.size ≤ x) : InBytes w' A n l := by
  refine ⟨h.1, fun j u hu => ?_⟩
  obtain ⟨b, off, ha, hc⟩ := h.2 j u hu
  refine ⟨b, off, ha, hC.cell hc ?_⟩
  intro hm
  have h1 := hS _ hm
  have h2 := World.block_lt_of_cell? _ _ hc
  simp at h1 h2
  omega

/-- What Few answers. -/
def FewOf (row xmin xmax np ns : Int) (n : Nat) (l : List Int) (w : World) (e : Ending) (w' : World) : Prop :=
  ∃ A' m c', e = .returned (.agg #[.int .u64 row, .int .u64 xmin, .int .u64 xmax, .int .i64 np, .int .i64 ns, .slice A' m c']) ∧ m = min n 230 ∧ Cloned w w' (.slice A' m c') (l.take 230)

set_option maxRecDepth 100000 in
set_option maxHeartbeats 2000000 in
theorem few_any (row xmin xmax np ns : Int) (A : Option Addr) (n c : Nat) (l : List Int) (w : World) (h : InBytes w A n l) (hA : A = none → n = 0 ∧ c = 0) (hnc : n ≤ c) (hc : c ≤ maxLen) :
    Calls Try.prog 29 #[.agg #[.int .u64 row, .int .u64 xmin, .int .u64 xmax, .int .i64 np, .int .i64 ns, .slice A n c]] w fun e w' => FewOf row xmin xmax np ns n l w e w' := by
  have I := Lib.hid (fun (w0 : World) (hC : Chg [] w w0) => cut_any A n c l w0 (h.chg hC (by simp)) hA hnc hc)
  clear h hA hnc hc
  go_enter Try.func29, Try.ntmps29
  go_wp2_with fail
  generalize hwa : World.alloc _ _ = wa
  have HG0 : Hid (wa.heap[w.heap.size]? = some (.cells #[.int .u64 row, .int .u64 xmin, .int .u64 xmax, .int .i64 np, .int .i64 ns, .slice A n c] 59 (0, 0))) := Lib.hid (by rw [← hwa]; exact (Below.heap_alloc _ _ _ (by simp)).trans (heap_alloc_new w _))
  have HG1 : Hid (wa.heap[w.heap.size + 1]? = some (.cells #[.int .u64 0, .int .u64 0, .int .u64 0, .int .i64 0, .int .i64 0, .slice none 0 0] 59 (0, 0))) := Lib.hid (by rw [← hwa]; exact heap_alloc2_new w _ _)
  have HCa : Hid (Chg [] w wa) := Lib.hid (by rw [← hwa]; exact ((Chg.refl [] w).alloc _).alloc _)
  clear hwa
  refine (I.out _ HCa.out).mono ?_
  rintro e w2 ⟨A', m, c', rfl, hm, hcl⟩
  have hC := hcl.2.1
  have g0 := hC.heap HG0.out (by simp)
  have g1 := hC.heap HG1.out (by simp)
  have x0 : w2.cell? ⟨w.heap.size, 0, none⟩ = some (.int .u64 row) := one6 g0 0 (by omega)
  have x1 : w2.cell? ⟨w.heap.size, 1, none⟩ = some (.int .u64 xmin) := one6 g0 1 (by omega)
  have x2 : w2.cell? ⟨w.heap.size, 2, none⟩ = some (.int .u64 xmax) := one6 g0 2 (by omega)
  have x3 : w2.cell? ⟨w.heap.size, 3, none⟩ = some (.int .i64 np) := one6 g0 3 (by omega)
  have x4 : w2.cell? ⟨w.heap.size, 4, none⟩ = some (.int .i64 ns) := one6 g0 4 (by omega)
  have x5 : w2.cell? ⟨w.heap.size, 5, none⟩ = some (.slice A n c) := one6 g0 5 (by omega)
  have y0 : w2.cell? ⟨w.heap.size + 1, 0, none⟩ = some (.int .u64 0) := one6 g1 0 (by omega)
  have y1 : w2.cell? ⟨w.heap.size + 1, 1, none⟩ = some (.int .u64 0) := one6 g1 1 (by omega)
  have y2 : w2.cell? ⟨w.heap.size + 1, 2, none⟩ = some (.int .u64 0) := one6 g1 2 (by omega)
  have y3 : w2.cell? ⟨w.heap.size + 1, 3, none⟩ = some (.int .i64 0) := one6 g1 3 (by omega)
  have y4 : w2.cell? ⟨w.heap.size + 1, 4, none⟩ = some (.int .i64 0) := one6 g1 4 (by omega)
  have y5 : w2.cell? ⟨w.heap.size + 1, 5, none⟩ = some (.slice none 0 0) := one6 g1 5 (by omega)
  have z5 : w2.frozen? ⟨w.heap.size, 5, none⟩ = false := frozen_of_row w2 _ 5 _ _ g0
  have f0 : w2.frozen? ⟨w.heap.size + 1, 0, none⟩ = false := frozen_of_row w2 _ 0 _ _ g1
  have f1 : w2.frozen? ⟨w.heap.size + 1, 1, none⟩ = false := frozen_of_row w2 _ 1 _ _ g1
  have f2 : w2.frozen? ⟨w.heap.size + 1, 2, none⟩ = false := frozen_of_row w2 _ 2 _ _ g1
  have f3 : w2.frozen? ⟨w.heap.size + 1, 3, none⟩ = false := frozen_of_row w2 _ 3 _ _ g1
  have f4 : w2.frozen? ⟨w.heap.size + 1, 4, none⟩ = false := frozen_of_row w2 _ 4 _ _ g1
  have f5 : w2.frozen? ⟨w.heap.size + 1, 5, none⟩ = false := frozen_of_row w2 _ 5 _ _ g1
  have hlt : w.heap.size + 1 < w2.heap.size := lt_of_heap g1
  have HG2 := Lib.hid g1
  have HG3 := Lib.hid g0
  have HCL := Lib.hid hcl
  have HM := Lib.hid hm
  clear hC g0 g1 hcl hm
  go_wp2
  refine bodyPost_ret (results_cell_row rfl _ _ (w.heap.size + 1) 59 #[.int .u64 row, .int .u64 xmin, .int .u64 xmax, .int .i64 np, .int .i64 ns, .slice A' m c'] (0, 0) _ rfl ?_ Try.underlying59 rfl (by kernel_rfl)) rfl ?_
  · exact set6 (heap_setCell_ne HG2.out (by simp)) _ _ _ _ _ _
  · refine ⟨A', m, c', rfl, HM.out, ?_⟩
    obtain ⟨h1, h2, h3⟩ := HCL.out
    have hC5 : Chg [w.heap.size, w.heap.size + 1] w2 (w2.setCell ⟨w.heap.size, 5, none⟩ (.slice A' m c')) := (Chg.refl _ _).setCell (.inl (by simp)) _
    refine ⟨?_, ?_, fun k hk => ?_⟩
    · exact Own.chg h1 (chg6 hC5 (.inl (by simp)) _ _ _ _ _ _) (fun k hk => by have := h3 k hk; have := HCa.out.size; have h9 := lt_of_heap HG1.out; simp; omega)
    · have hw2 : Chg [] w w2 := HCa.out.trans h2
      exact hw2.trans' (chg6 hC5 (.inl (by simp)) _ _ _ _ _ _) (fun x hx => by simp at hx; omega)
    · have := h3 k hk; have := HCa.out.size; omega
end Go.Proofs.Yteokjaocnemmlaa
