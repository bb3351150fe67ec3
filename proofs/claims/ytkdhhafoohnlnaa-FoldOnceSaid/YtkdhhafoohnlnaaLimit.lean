/-
  The walk of fold.Limit.
-/
import Derived.Test.YtkdhhafoohnlnaaOnceP
import Derived.Test.YtkdhhafoohnlnaaKeys1
namespace Go.Proofs.Ytkdhhafoohnlnaa
open Go.RowKit

set_option maxRecDepth 100000 in
set_option maxHeartbeats 2000000 in
theorem limit20 (n : Nat) (most : Int) (w : World) (hn : n ≤ 1000) (hm0 : -9223372036854775808 ≤ most) (hm1 : most ≤ 9223372036854775807) : Calls Try.prog 20 #[.int .i64 n, .int .i64 most] w fun e w' => e = .returned (.int .i64 (limI n most)) ∧ w = w' := by
  have hmx : max (n : Int) 0 = (n : Int) := by omega
  unfold limI
  by_cases h1 : most < 0
  · have d1 : decide (most < 0) = true := by simpa using h1
    go_enter Try.func20, Try.ntmps20
    go_wp2
    go_ret
    simp
  · have d1 : decide (most < 0) = false := by simpa using h1
    by_cases h2 : (n : Int) < most
    · have d2 : decide ((n : Int) < most) = true := by simpa using h2
      go_enter Try.func20, Try.ntmps20
      go_wp2
      go_ret
      simp
    · have d2 : decide ((n : Int) < most) = false := by simpa using h2
      go_enter Try.func20, Try.ntmps20
      go_wp2
      go_ret
      simp
set_option maxRecDepth 100000 in
set_option maxHeartbeats 2000000 in
theorem limit20_neg (most : Int) (w : World) (hm0 : -9223372036854775808 ≤ most) (hm1 : most ≤ 9223372036854775807) : Calls Try.prog 20 #[.int .i64 (-1), .int .i64 most] w fun e w' => e = .returned (.int .i64 0) ∧ w = w' := by
  have hmx : max (-1 : Int) 0 = 0 := by omega
  by_cases h1 : most < 0
  · have d1 : decide (most < 0) = true := by simpa using h1
    go_enter Try.func20, Try.ntmps20
    go_wp2
    go_ret
    simp
  · have d1 : decide (most < 0) = false := by simpa using h1
    by_cases h2 : 0 < most
    · have d2 : decide (0 < most) = true := by simpa using h2
      go_enter Try.func20, Try.ntmps20
      go_wp2
      go_ret
      simp
    · have h3 : most = 0 := by omega
      subst h3
      go_enter Try.func20, Try.ntmps20
      go_wp2
      go_ret
      simp
end Go.Proofs.Ytkdhhafoohnlnaa
