/-
  The walk of the reference's Right.
-/
import Derived.Test.YtkdhhafoohnlnaaRight1
namespace Go.Proofs.Ytkdhhafoohnlnaa
open Go.RowKit

/-- Is a value right? -/
def rightB (v : Vl) : Bool :=
  if ((v.k : Int) == 0) = true then (v.i == 0) && (v.s.toList.isEmpty && !v.b) else
  if ((v.k : Int) == 1) = true then v.s.toList.isEmpty && !v.b else
  if ((v.k : Int) == 2) = true then (v.i == 0) && (!v.b && (decide (v.s.size ≤ 60) && validB v.s)) else
  if ((v.k : Int) == 3) = true then (v.i == 0) && v.s.toList.isEmpty else false

set_option maxRecDepth 100000 in
set_option maxHeartbeats 8000000 in
theorem right22 (v : Vl) (w : World) : Calls Try.prog 22 #[v.val] w fun e w' => e = .returned (.bool (rightB v)) ∧ Chg [] w w' := by
  obtain ⟨k, i, s, b⟩ := v
  unfold Vl.val
  obtain ⟨z, hz⟩ : ∃ z, z = rightB ⟨k, i, s, b⟩ := ⟨_, rfl⟩
  rw [← hz]
  have HZ := Lib.hid hz
  clear hz
  by_cases hs : s.size ≤ 60
  · have hs1 : (s.size : Int) ≤ 60 := by omega
    have I := Lib.hid (fun w : World => valid34 s hs w)
    go_enter Try.func22, Try.ntmps22
    go_wp2_with fail
    go_quiet (fail)
    go_wp2_with (first | (go_at_call 34; (with_reducible refine (I.out _).mono ?_); rintro e w2 ⟨rfl, h2⟩; have H2 := Lib.hid h2; clear h2))
    all_goals go_ret
    all_goals first
      | exact ⟨by rw [HZ.out]; simp_all [rightB], ((Chg.refl [] w).alloc _).drewN _⟩
      | exact ⟨by rw [HZ.out]; simp_all [rightB], (((Chg.refl [] w).alloc _).drewN _).trans H2.out⟩
  · have hs1 : ¬ (s.size : Int) ≤ 60 := by omega
    go_enter Try.func22, Try.ntmps22
    go_wp2_with fail
    go_quiet (fail)
    go_wp2_with fail
    all_goals go_ret
    all_goals exact ⟨by rw [HZ.out]; first | (simp_all [rightB]; done) | (simp_all [rightB]; intro _; omega), ((Chg.refl [] w).alloc _).drewN _⟩
end Go.Proofs.Ytkdhhafoohnlnaa
