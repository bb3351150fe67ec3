/-
  The walk of awake.
-/
import Derived.Test.YtkdhhafoohnlnaaAwk2
namespace Go.Proofs.Ytkdhhafoohnlnaa
open Go.RowKit

theorem bool_one (w : World) (T : Nat) : BoolAt (w.alloc (.cells #[.bool true] T)) (.slice (some ⟨w.heap.size, 0, none⟩) 1 1) [true] := by
  refine ⟨_, _, rfl, fun j y hy => ?_⟩
  have hj := getElem?_lt hy
  have hj0 : j = 0 := by simp at hj; omega
  subst hj0
  simp at hy
  subst hy
  exact ⟨_, 0, rfl, by rw [cell_of_row _ _ _ _ _ _ (heap_alloc_new w _)]; rfl⟩
set_option maxRecDepth 100000 in
set_option maxHeartbeats 8000000 in
theorem awake9 (w : World) : Calls Try.prog 9 #[] w fun e w' => e = .returned (.bool true) ∧ Chg [] w w' := by
  have N := Lib.hid num21
  have hlen : ∀ r, r ∈ AK → r.length ≤ 1000 := fun r hr => by rw [AK_even r hr]; omega
  have G := Lib.hid (fun (w0 : World) (hC : Chg [] (aW w) w0) => (groups_any ((aW_keys w).chg hC) (by decide) hlen).mono (R' := fun e w' => ∃ A c vs, e = .returned (.slice A 3 c) ∧ GAt w' (.slice A 3 c) [[0, 2], [1], [3]] vs ∧ Chg [] w0 w') (fun e w' h => by unfold GrpOf at h; rw [AK_grp] at h; exact h))
  have S1 := Lib.hid (fun (w0 : World) (hC : Chg [] (aW w) w0) => (sort_any (d := []) (vD := .slice none 0 0) (stable_few (by decide)) ((aW_keys w).chg hC) ⟨_, _, rfl, by simp⟩ (by decide) hlen AK_even).mono (R' := fun e w' => ∃ A c, e = .returned (.slice A 4 c) ∧ NatsAt w' (.slice A 4 c) [3, 1, 0, 2] ∧ Chg [] w0 w') (fun e w' h => by
    obtain ⟨A, c, l, he, h1, h2, h3, h4, _⟩ := h
    have := AK_up h2 h3
    subst this
    exact ⟨A, c, he, h1, h4⟩))
  have S2 := Lib.hid (fun (w0 : World) (vD : Value) (hC : Chg [] (aW w) w0) (hD : BoolAt w0 vD [true]) => (sort_any (d := [true]) (vD := vD) (stable_few (by decide)) ((aW_keys w).chg hC) hD (by decide) hlen AK_even).mono (R' := fun e w' => ∃ A c, e = .returned (.slice A 4 c) ∧ NatsAt w' (.slice A 4 c) [0, 2, 1, 3] ∧ Chg [] w0 w') (fun e w' h => by
    obtain ⟨A, c, l, he, h1, h2, h3, h4, _⟩ := h
    have := AK_down h2 h3
    subst this
    exact ⟨A, c, he, h1, h4⟩))
  have HAW := Lib.hid (aW_chg w)
  clear hlen
  go_enter Try.func9, Try.ntmps9
  go_wp2_with (first
    | (go_at_call 21; (with_reducible refine (N.out _ _).mono ?_); rintro e w2 ⟨rfl, rfl⟩)
    | (go_at_call 11; (with_reducible refine (G.out _ (Chg.refl [] _)).mono ?_); rintro e w2 ⟨A1, c1, vs, rfl, hg, hC1⟩; have HG := Lib.hid hg; have HC1 := Lib.hid hC1; clear hg hC1)
    | (go_at_call 14; (with_reducible refine (S1.out _ HC1.out).mono ?_); rintro e w3 ⟨A2, c2, rfl, hs, hC2⟩; have HS := Lib.hid hs; have HC2 := Lib.hid hC2; have HC12 := Lib.hid (HC1.out.trans HC2.out); clear hs hC2)
    | (go_at_call 14; (with_reducible refine (S2.out _ _ (HC12.out.alloc _) (bool_one _ _)).mono ?_); rintro e w4 ⟨A3, c3, rfl, hs, hC3⟩; have hG4 := (HG.out.chg HC2.out).chg (((Chg.refl [] _).alloc _).trans hC3); have hS4 := (HS.out.chg (((Chg.refl [] _).alloc _).trans hC3) (by simp)); obtain ⟨u0, hu0⟩ : ∃ u, vs[0]? = some u := ⟨_, List.getElem?_eq_getElem (by rw [hG4.len]; decide)⟩; obtain ⟨g1, k1, e1, x1⟩ := hG4.cell hu0; obtain ⟨g2, k2, e2, x2⟩ := (hG4.inn 0 [0, 2] u0 rfl hu0).cell (j := 1) (i := 2) rfl; obtain ⟨g3, k3, e3, x3⟩ := NatsAt.cell (l := [3, 1, 0, 2]) hS4 (j := 0) (i := 3) rfl; obtain ⟨g4, k4, e4, x4⟩ := NatsAt.cell (l := [3, 1, 0, 2]) hS4 (j := 2) (i := 0) rfl; obtain ⟨g5, k5, e5, x5⟩ := NatsAt.cell (l := [0, 2, 1, 3]) hs (j := 0) (i := 0) rfl; obtain ⟨g6, k6, e6, x6⟩ := NatsAt.cell (l := [0, 2, 1, 3]) hs (j := 3) (i := 3) rfl; have HFIN := Lib.hid (HAW.out.trans ((HC12.out.alloc _).trans hC3)); injection e1 with e1 _ e1'; injection e3 with e3 _ e3'; injection e5 with e5 _ e5'; rw [e3] at e4; rw [e5] at e6; injection e4 with e4 _ e4'; injection e4 with e4; injection e4 with e4; injection e6 with e6 _ e6'; injection e6 with e6; injection e6 with e6; subst e1 e2 e3 e5 e1' e3' e5' e4 e6; simp only [List.length_cons, List.length_nil] at *; clear hG4 hS4 hs hC3))
  go_ret
  exact ⟨rfl, HFIN.out⟩
end Go.Proofs.Ytkdhhafoohnlnaa
