/-
  The walk of lapidarylaw06.awake: it returns true, and turns nothing that was there.
-/
import Derived.Test.YteokjaocnemmlaaRef6b
namespace Go.Proofs.Yteokjaocnemmlaa
open Go.RowKit

def awk : List Int := [5, 50, 50]
theorem awk_set : ∀ k : Nat, k < 3 → setNew (awk.take k) (k : Int) (awk.getD k 0) = awk.take (k + 1) := by
  intro k hk
  match k, hk with
  | 0, _ => rfl
  | 1, _ => rfl
  | 2, _ => rfl

set_option maxRecDepth 100000 in
set_option maxHeartbeats 2000000 in
theorem awake6_any (w : World) : Calls Try.prog 12 #[] w fun e w' => e = .returned (.bool true) ∧ Chg [] w w' := by
  go_enter Try.func12, Try.ntmps12
  go_wp2_with (go_at_call 13; refine (new_any _).mono ?_; rintro e w1 ⟨rfl, rfl⟩)
  generalize hw1 : w.alloc (ints .i64 97 513 (newf 512)) = w1
  have hs : w1.heap.size = w.heap.size + 1 := by rw [← hw1]; simp
  have hm : IsMap w1 w.heap.size [] := by rw [← hw1]; exact IsMap.new w
  have hC : Chg [] w w1 := by rw [← hw1]; exact (Chg.refl _ _).alloc _
  clear hw1
  generalize hw2 : w1.alloc _ = w2
  have hs2 : w2.heap.size = w.heap.size + 2 := by rw [← hw2]; simp [hs]
  have hm2 : IsMap w2 w.heap.size [] := hm.chg (by rw [← hw2]; exact (Chg.refl [] _).alloc _) (by simp)
  have hC2 : Chg [] w w2 := by rw [← hw2]; exact hC.alloc _
  have hg : w2.heap[w.heap.size + 1]? = some (.cells #[.int .i64 5, .int .i64 50, .int .i64 50] 3 (0, 0)) := by rw [← hw2, ← hs]; exact heap_alloc_new w1 _
  clear hw2 hm hC hs
  have HS := Lib.hid hs2
  clear hs2
  go_loopw [11] (fun i wr => ∃ k : Nat, i = .int .i64 k ∧ k ≤ 3 ∧ IsMap wr w.heap.size (awk.take k) ∧ Chg [] w wr ∧ wr.heap[w.heap.size + 1]? = some (.cells #[.int .i64 5, .int .i64 50, .int .i64 50] 3 (0, 0))) (fun i _ => 3 - (intOf i).toNat)
  case atStart => exact ⟨0, rfl, by omega, hm2, hC2, hg⟩
  case round =>
    obtain ⟨k, rfl, hk, hmr, hCr, hgr⟩ := hrel
    have HM := Lib.hid hmr
    have HC := Lib.hid hCr
    have HG := Lib.hid hgr
    clear hm2 hC2 hg hmr hCr
    by_cases hlt : k < 3
    · have hx : wr.cell? ⟨w.heap.size + 1, k, none⟩ = some (.int .i64 (awk.getD k 0)) := by
        rw [cell_of_row wr _ _ _ _ _ hgr]
        match k, hlt with
        | 0, _ => rfl
        | 1, _ => rfl
        | 2, _ => rfl
      clear hgr
      obtain ⟨x, hx'⟩ : ∃ x, awk.getD k 0 = x := ⟨_, rfl⟩
      rw [hx'] at hx
      have HX := Lib.hid hx'
      clear hx'
      go_wp2_with (go_at_call 14; refine (set_any w.heap.size (awk.take k) k x _ HM.out).mono ?_; rintro e w3 ⟨rfl, hm3, hC3⟩; have HM3 := Lib.hid hm3; clear hm3)
      go_roundw
      case measure => simp [intOf]; omega
      case rel =>
        have hm3 := HM3.out
        rw [← HX.out, awk_set k hlt] at hm3
        exact ⟨k + 1, by go_num, by omega, hm3, HC.out.trans' hC3 (by simp), hC3.heap HG.out (by simp)⟩
    · have : k = 3 := by omega
      subst this
      clear hgr
      go_wp2_with (go_at_call 16; refine (find_any w.heap.size (awk.take 3) _ _ HM.out).mono ?_; rintro e w3 ⟨rfl, rfl⟩)
      go_ret
      exact ⟨rfl, HC.out⟩

end Go.Proofs.Yteokjaocnemmlaa
