/-
  The walk of SamePlaces, of lists that are alike.
-/
import Derived.Test.YteokjaocnemmlaaHeap9
import Derived.Laws.OwnMore
namespace Go.Proofs.Yteokjaocnemmlaa
open Go.RowKit

theorem places_at {w : World} {v : Value} {l : List (Nat × Nat)} (h : Own w 53 2 v l.length (tids l)) : (v = .slice none 0 0 ∧ l = []) ∨ ∃ g c, v = .slice (some ⟨g, 0, none⟩) l.length c ∧ ∀ i q, l[i]? = some q → w.cell? ⟨g, i * 2, none⟩ = some (.int .i64 q.1) ∧ w.cell? ⟨g, i * 2 + 1, none⟩ = some (.int .i64 q.2) := by
  rcases h.2 with ⟨h1, h2⟩ | ⟨g, cap, cur, he, _⟩
  · exact .inl ⟨h1, List.length_eq_zero_iff.1 h2⟩
  · refine .inr ⟨g, cap, he, fun i q hq => ?_⟩
    obtain ⟨h1, h2⟩ := tids_get hq
    have e1 := World.ownsRow.cells h (g := g) (by rw [he]; rfl) _ _ h1
    have e2 := World.ownsRow.cells h (g := g) (by rw [he]; rfl) _ _ h2
    rw [Go.WideShapes.add_plain] at e1 e2
    simp only [Nat.zero_add] at e1 e2
    rw [Nat.mul_comm]
    exact ⟨e1, e2⟩

set_option maxRecDepth 100000 in
set_option maxHeartbeats 4000000 in
theorem same_places {w : World} {v v' : Value} {l : List (Nat × Nat)} (h : Own w 53 2 v l.length (tids l)) (h' : Own w 53 2 v' l.length (tids l)) (hl : l.length ≤ 1000000) :
    Calls Try.prog 26 #[v, v'] w fun e w' => e = .returned (.bool true) ∧ ∃ n, w' = w.drewN n := by
  rcases places_at h with ⟨rfl, rfl⟩ | ⟨g, c, rfl, hc⟩
  · rcases places_at h' with ⟨rfl, _⟩ | ⟨g', c', rfl, hc'⟩
    · clear h h'
      go_enter Try.func26, Try.ntmps26
      go_wp2_with fail
      go_loopw [13] (fun i wr => i = .int .i64 0 ∧ ∃ n, wr = w.drewN n) (fun _ _ => 0)
      case atStart => exact ⟨rfl, 0, rfl⟩
      case round =>
        obtain ⟨rfl, n, rfl⟩ := hrel
        go_wp2
        go_ret
        exact ⟨rfl, n, rfl⟩
    · clear h h'
      go_enter Try.func26, Try.ntmps26
      go_wp2_with fail
      go_loopw [13] (fun i wr => i = .int .i64 0 ∧ ∃ n, wr = w.drewN n) (fun _ _ => 0)
      case atStart => exact ⟨rfl, 0, rfl⟩
      case round =>
        obtain ⟨rfl, n, rfl⟩ := hrel
        go_wp2
        go_ret
        exact ⟨rfl, n, rfl⟩
  · rcases places_at h' with ⟨rfl, rfl⟩ | ⟨g', c', rfl, hc'⟩
    · clear h h'
      go_enter Try.func26, Try.ntmps26
      go_wp2_with fail
      go_loopw [13] (fun i wr => i = .int .i64 0 ∧ ∃ n, wr = w.drewN n) (fun _ _ => 0)
      case atStart => exact ⟨rfl, 0, rfl⟩
      case round =>
        obtain ⟨rfl, n, rfl⟩ := hrel
        go_wp2
        go_ret
        exact ⟨rfl, n, rfl⟩
    · obtain ⟨m, hm⟩ : ∃ m, m = l.length := ⟨_, rfl⟩
      rw [← hm] at hl ⊢
      have HC := Lib.hid hc
      have HC' := Lib.hid hc'
      have HM := Lib.hid hm
      have e0 : ((m : Int) != (m : Int)) = false := by simp
      clear h h' hc hc' hm
      go_enter Try.func26, Try.ntmps26
      go_wp2_with fail
      go_loopw [13] (fun i wr => ∃ k : Nat, i = .int .i64 k ∧ k ≤ m ∧ ∃ n, wr = w.drewN n) (fun i _ => m - (intOf i).toNat)
      case atStart => exact ⟨0, rfl, by omega, 0, rfl⟩
      case round =>
        obtain ⟨k, rfl, hk, n, rfl⟩ := hrel
        by_cases hlt : k < m
        · obtain ⟨q, hq⟩ : ∃ q, l[k]? = some q := ⟨_, List.getElem?_eq_getElem (by rw [← HM.out]; exact hlt)⟩
          obtain ⟨a1, a2⟩ := HC.out k q hq
          obtain ⟨b1, b2⟩ := HC'.out k q hq
          have hlti : (k : Int) < (m : Int) := by omega
          have n1 : ((q.1 : Int) != (q.1 : Int)) = false := by simp
          have n2 : ((q.2 : Int) != (q.2 : Int)) = false := by simp
          clear hq
          go_wp2_with fail
          go_quiet (fail)
          go_wp2_with fail
          go_roundw
          case measure => simp [intOf]; omega
          case rel => exact ⟨k + 1, by go_num, by omega, _, rfl⟩
        · go_wp2
          go_ret
          exact ⟨rfl, n, rfl⟩
end Go.Proofs.Yteokjaocnemmlaa
