/-
  The walks of fold.Sort and of SortStableFunc, given stable's; of stable for few.
-/
import Derived.Test.YtkdhhafoohnlnaaSrt2
namespace Go.Proofs.Ytkdhhafoohnlnaa
open Go.RowKit

/-- What stable leaves, of n rows. -/
def StableOK (n : Nat) : Prop :=
  ∀ {w wr : World} {g cap bk bd c : Nat} {K : List (List Vl)} {d : List Bool}, Clo w bk bd K d → Even K c → n ≤ K.length → SS w g n cap (List.range n) wr →
    Calls Try.prog 36 #[.slice (some ⟨g, 0, none⟩) n cap, .int .i64 n, cloV bk bd] wr fun e w' => e = .returned (.tuple #[]) ∧ ∃ p, p.Perm (List.range n) ∧ p.Pairwise (TT K d) ∧ SS w g n cap p w'

theorem range_lt (n : Nat) : (List.range n).Pairwise (· < ·) := List.pairwise_lt_range
set_option maxRecDepth 100000 in
set_option maxHeartbeats 4000000 in
theorem stable_few {n : Nat} (hn : n < 20) : StableOK n := by
  intro w wr g cap bk bd c K d hcl he hnK hS
  have I := Lib.hid (fun (w0 : World) (hC : Chg [] wr w0) => ins39 (a := 0) (b := n) (A := []) (S := List.range n) (Z := []) hcl he (by simpa using hS.still hC) (fun x hx => by have := List.mem_range.1 hx; omega) (range_lt n) rfl (by simp) (by omega))
  have d1 : decide ((20 : Int) ≤ (n : Int)) = false := by simp; omega
  have d2 : decide (20 ≤ n) = false := by simp; omega
  have d3 : decide ((20 : Int) < (n : Int)) = false := by simp; omega
  have d4 : decide (20 < n) = false := by simp; omega
  clear hcl he hnK hS
  go_enter Try.func36, Try.ntmps36
  go_wp2_with fail
  refine wp_loop_rounds 1 ?_
  rw [rounds_succ]
  go_wp2_with fail
  refine (I.out _ (Chg.refl [] wr)).mono ?_
  rintro e w1 ⟨rfl, h1⟩
  have H1 := Lib.hid h1
  clear h1
  go_wp2_with fail
  refine wp_loop_rounds 1 ?_
  rw [rounds_succ]
  go_wp2_with fail
  go_end0
  obtain ⟨p, h1, h2, h3⟩ := H1.out
  exact ⟨rfl, p, h1, h2, by simpa using h3⟩
end Go.Proofs.Ytkdhhafoohnlnaa
