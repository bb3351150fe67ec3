/-
  The walks of the statements' num, same and awake.
-/
import Derived.Test.YtkdhhafoohnlnaaFew2
import Derived.Test.YtkdhhafoohnlnaaGrp5
namespace Go.Proofs.Ytkdhhafoohnlnaa
open Go.RowKit

set_option maxRecDepth 100000 in
set_option maxHeartbeats 4000000 in
theorem num21 (i : Int) (w : World) : Calls Try.prog 21 #[.int .i64 i] w fun e w' => e = .returned (.slice (some ⟨w.heap.size, 0, none⟩) 1 1) ∧ w' = w.alloc (.cells #[.int .u8 1, .int .i64 i, .string ⟨#[]⟩, .bool false] 39) := by
  go_enter Try.func21, Try.ntmps21
  go_wp2_with fail
  go_ret
  exact ⟨rfl, rfl⟩

set_option maxRecDepth 100000 in
set_option maxHeartbeats 8000000 in
theorem same13 {w : World} {v1 v2 : Value} {l m : List Nat} (h1 : NatsAt w v1 l) (h2 : NatsAt w v2 m) (hl : l.length ≤ 100000) : Calls Try.prog 13 #[v1, v2] w fun e w' => e = .returned (.bool (decide (l = m))) ∧ Chg [] w w' := by
  obtain ⟨A1, c1, rfl⟩ := h1.form'
  obtain ⟨A2, c2, rfl⟩ := h2.form'
  obtain ⟨n, hn⟩ : ∃ n, n = l.length := ⟨_, rfl⟩
  obtain ⟨n2, hn2⟩ : ∃ n, n = m.length := ⟨_, rfl⟩
  have H1 := Lib.hid h1
  have H2 := Lib.hid h2
  rw [← hn] at hl H1 ⊢
  rw [← hn2] at H2 ⊢
  obtain ⟨z, hz⟩ : ∃ z, z = decide (l = m) := ⟨_, rfl⟩
  rw [← hz]
  have HN := Lib.hid hn
  have HN2 := Lib.hid hn2
  have HZ := Lib.hid hz
  clear h1 h2 hn hn2 hz
  by_cases hne : n = n2
  · subst hne
    go_enter Try.func13, Try.ntmps13
    go_wp2_with fail
    go_loopw [13] (fun i wr => ∃ j : Nat, i = .int .i64 j ∧ j ≤ n ∧ (∀ q, q < j → l[q]? = m[q]?) ∧ Chg [] w wr) (fun i _ => n - (intOf i).toNat)
    case atStart => exact ⟨0, rfl, by omega, by intro q hq; omega, Chg.refl [] w⟩
    case round =>
      obtain ⟨j, rfl, hj, hE, hC⟩ := hrel
      have HE := Lib.hid hE
      have HC := Lib.hid hC
      clear hE hC
      by_cases hlt : j < n
      · obtain ⟨x, hx⟩ : ∃ x, l[j]? = some x := ⟨_, List.getElem?_eq_getElem (by rw [← HN.out]; exact hlt)⟩
        obtain ⟨y, hy⟩ : ∃ y, m[j]? = some y := ⟨_, List.getElem?_eq_getElem (by rw [← HN2.out]; exact hlt)⟩
        obtain ⟨g1, d1, he, hc1⟩ := NatsAt.cell (by have := H1.out; rw [HN.out] at this; exact this) hx
        obtain ⟨g2, d2, he', hc2⟩ := NatsAt.cell (by have := H2.out; rw [HN2.out] at this; exact this) hy
        injection he with e1 e2 e3
        injection he' with e1' e2' e3'
        subst e1 e3 e1' e3'
        have x1 := HC.out.cell hc1 (by simp)
        have x2 := HC.out.cell hc2 (by simp)
        have HX := Lib.hid hx
        have HY := Lib.hid hy
        have hji : (j : Int) < (n : Int) := by omega
        clear hx hy hc1 hc2 e2 e2'
        by_cases hxy : x = y
        · have hxyi : (x : Int) = (y : Int) := by omega
          have hd : decide ((x : Int) = (y : Int)) = true := by simpa using hxyi
          subst hxy
          go_wp2_with fail
          go_quiet (fail)
          go_wp2_with fail
          go_roundw
          case measure => simp [intOf]; omega
          case rel =>
            refine ⟨j + 1, by go_num, by omega, ?_, HC.out.drewN _⟩
            intro q hq
            by_cases hqj : q = j
            · subst hqj; rw [HX.out, HY.out]
            · exact HE.out q (by omega)
        · have hz : z = false := by
            rw [HZ.out]
            apply decide_eq_false
            intro e
            have := HX.out
            rw [e, HY.out] at this
            injection this with this
            exact hxy this.symm
          have hxyi : ¬ (x : Int) = (y : Int) := by omega
          subst hz
          go_wp2_with fail
          go_quiet (fail)
          go_wp2_with fail
          go_ret
          exact ⟨rfl, HC.out.drewN _⟩
      · have hz : z = true := by
          rw [HZ.out]
          apply decide_eq_true
          apply List.ext_getElem?
          intro q
          by_cases hq : q < j
          · exact HE.out q hq
          · rw [List.getElem?_eq_none (by rw [← HN.out]; omega), List.getElem?_eq_none (by rw [← HN2.out]; omega)]
        subst hz
        go_wp2_with fail
        go_ret
        exact ⟨rfl, HC.out⟩
  · have hz : z = false := by
      rw [HZ.out]
      apply decide_eq_false
      intro e
      exact hne (by rw [HN.out, HN2.out, e])
    have hni : ¬ (n : Int) = (n2 : Int) := by omega
    subst hz
    go_enter Try.func13, Try.ntmps13
    go_wp2_with fail
    go_ret
    exact ⟨rfl, Chg.refl [] w⟩
end Go.Proofs.Ytkdhhafoohnlnaa
