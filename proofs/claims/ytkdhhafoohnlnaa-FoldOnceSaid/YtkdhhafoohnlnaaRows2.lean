/-
  The walk of fold.Less. (Printed by mk_fless.py.)
-/
import Derived.Test.YtkdhhafoohnlnaaRows1
namespace Go.Proofs.Ytkdhhafoohnlnaa
open Go.RowKit

set_option maxRecDepth 100000 in
set_option maxHeartbeats 8000000 in
theorem fless_any (va vb vd : Value) (a b : List Vl) (d : List Bool) (w : World) (ha : RowAt w va a) (hb : RowAt w vb b) (hd : BoolAt w vd d) (hla : a.length ≤ 1000) :
    Calls Try.prog 17 #[va, vb, vd] w fun e w' => e = .returned (.bool (lessK a b d)) ∧ Chg [] w w' := by
  obtain ⟨Aa, ca, rfl, hca⟩ := ha
  obtain ⟨Ab, cb, rfl, hcb⟩ := hb
  obtain ⟨Ad, cd, rfl, hcd⟩ := hd
  obtain ⟨r, hr⟩ : ∃ r, r = lessK a b d := ⟨_, rfl⟩
  obtain ⟨la, ela⟩ : ∃ n, n = a.length := ⟨_, rfl⟩
  obtain ⟨lb, elb⟩ : ∃ n, n = b.length := ⟨_, rfl⟩
  obtain ⟨ld, eld⟩ : ∃ n, n = d.length := ⟨_, rfl⟩
  obtain ⟨m, em⟩ : ∃ m, m = min la lb := ⟨_, rfl⟩
  rw [← hr, ← ela, ← elb, ← eld]
  rw [← ela] at hla
  have mmi : min (la : Int) (lb : Int) = (m : Int) := by omega
  have hmla : m ≤ la := by omega
  have hmlb : m ≤ lb := by omega
  have HR0 : Hid (lessK (a.drop 0) (b.drop 0) (d.drop 0) = r) := Lib.hid (by rw [hr]; rfl)
  have HEA := Lib.hid ela
  have HEB := Lib.hid elb
  have HED := Lib.hid eld
  have HEM := Lib.hid em
  have HCA := Lib.hid hca
  have HCB := Lib.hid hcb
  have HCD := Lib.hid hcd
  clear hca hcb hcd hr ela elb eld em
  go_enter Try.func17, Try.ntmps17
  go_wp2_with fail
  go_loopw [13] (fun i wr => ∃ k : Nat, i = .int .i64 k ∧ k ≤ m ∧ lessK (a.drop k) (b.drop k) (d.drop k) = r ∧ Chg [] w wr) (fun i _ => m - (intOf i).toNat)
  case atStart => exact ⟨0, rfl, by omega, HR0.out, Chg.refl [] w⟩
  case round =>
    obtain ⟨k, rfl, hk, hrk, hCr⟩ := hrel
    have HRK := Lib.hid hrk
    have HCR := Lib.hid hCr
    clear hrk hCr HR0
    by_cases hlt : k < m
    · obtain ⟨x, hx⟩ : ∃ x, a[k]? = some x := ⟨_, List.getElem?_eq_getElem (by rw [← HEA.out]; omega)⟩
      obtain ⟨y, hy⟩ : ∃ y, b[k]? = some y := ⟨_, List.getElem?_eq_getElem (by rw [← HEB.out]; omega)⟩
      obtain ⟨ba, oa, rfl, a0, a1, a2, a3⟩ := HCA.out k x hx
      obtain ⟨bb, ob, rfl, b0, b1, b2, b3⟩ := HCB.out k y hy
      have xa0 := HCR.out.cell a0 (by simp)
      have xa1 := HCR.out.cell a1 (by simp)
      have xa2 := HCR.out.cell a2 (by simp)
      have xa3 := HCR.out.cell a3 (by simp)
      have xb0 := HCR.out.cell b0 (by simp)
      have xb1 := HCR.out.cell b1 (by simp)
      have xb2 := HCR.out.cell b2 (by simp)
      have xb3 := HCR.out.cell b3 (by simp)
      have HST := Lib.hid (lessK_step (d := d) hx hy)
      rw [HRK.out] at HST
      have HSA := Lib.hid (fun w => same_any x y w)
      have HLE := Lib.hid (fun w => less_any x y w)
      obtain ⟨c, hc⟩ : ∃ c, c = sameV x y := ⟨_, rfl⟩
      obtain ⟨l, hl⟩ : ∃ l, l = lessV x y := ⟨_, rfl⟩
      rw [← hc] at HSA HST
      rw [← hl] at HLE HST
      have hki : (k : Int) < (la : Int) := by omega
      have hkj : (k : Int) < (lb : Int) := by omega
      clear hx hy hc hl a0 a1 a2 a3 b0 b1 b2 b3
      obtain ⟨ka, ia, sa, ta⟩ := x
      obtain ⟨kb, ib, sb, tb⟩ := y
      unfold Vl.val at *
      simp only at xa0 xa1 xa2 xa3 xb0 xb1 xb2 xb3
      cases c with
      | true =>
        have hst : r = lessK (a.drop (k + 1)) (b.drop (k + 1)) (d.drop (k + 1)) := by have := HST.out; simpa using this
        have HNX := Lib.hid hst
        clear hst HST
        go_wp2_with fail
        (go_region_held3 (fun w' => w'.cell? ⟨ba, oa + k * 4, none⟩ = some (.int .u8 ka) ∧ w'.cell? ⟨ba, oa + k * 4 + 1, none⟩ = some (.int .i64 ia) ∧ w'.cell? ⟨ba, oa + k * 4 + 2, none⟩ = some (.string sa) ∧ w'.cell? ⟨ba, oa + k * 4 + 3, none⟩ = some (.bool ta) ∧ w'.cell? ⟨bb, ob + k * 4, none⟩ = some (.int .u8 kb) ∧ w'.cell? ⟨bb, ob + k * 4 + 1, none⟩ = some (.int .i64 ib) ∧ w'.cell? ⟨bb, ob + k * 4 + 2, none⟩ = some (.string sb) ∧ w'.cell? ⟨bb, ob + k * 4 + 3, none⟩ = some (.bool tb)) (first | with_reducible exact ⟨xa0, xa1, xa2, xa3, xb0, xb1, xb2, xb3⟩ | with_reducible exact ⟨ya0, ya1, ya2, ya3, yb0, yb1, yb2, yb3⟩ | go_keep)
      (first
       | (go_at_call 30; (with_reducible refine (HSA.out _).mono ?_); rintro e w2 ⟨rfl, hC2⟩; have ya0 := hC2.cell (p := ⟨ba, oa + k * 4, none⟩) (by first | exact ya0 | exact xa0) (by simp); have ya1 := hC2.cell (p := ⟨ba, oa + k * 4 + 1, none⟩) (by first | exact ya1 | exact xa1) (by simp); have ya2 := hC2.cell (p := ⟨ba, oa + k * 4 + 2, none⟩) (by first | exact ya2 | exact xa2) (by simp); have ya3 := hC2.cell (p := ⟨ba, oa + k * 4 + 3, none⟩) (by first | exact ya3 | exact xa3) (by simp); have yb0 := hC2.cell (p := ⟨bb, ob + k * 4, none⟩) (by first | exact yb0 | exact xb0) (by simp); have yb1 := hC2.cell (p := ⟨bb, ob + k * 4 + 1, none⟩) (by first | exact yb1 | exact xb1) (by simp); have yb2 := hC2.cell (p := ⟨bb, ob + k * 4 + 2, none⟩) (by first | exact yb2 | exact xb2) (by simp); have yb3 := hC2.cell (p := ⟨bb, ob + k * 4 + 3, none⟩) (by first | exact yb3 | exact xb3) (by simp); have HCC := Lib.hid (Chg.trans (S := []) (a := w) (by first | exact HCC.out | exact HCR.out.same) hC2); clear hC2)))
        go_wp2_with fail
        go_roundw
        case measure => simp [intOf]; omega
        case rel => exact ⟨k + 1, by go_num, by omega, HNX.out.symm, HCC.out⟩
      | false =>
        have HST2 : Hid (r = (l != (d[k]?).getD false)) := Lib.hid (by have := HST.out; simpa using this)
        clear HST
        by_cases hkd : k < ld
        · obtain ⟨dd, hdd⟩ : ∃ dd, d[k]? = some dd := ⟨_, List.getElem?_eq_getElem (by rw [← HED.out]; exact hkd)⟩
          obtain ⟨bd, od, rfl, d0⟩ := HCD.out k dd hdd
          have xd0 := HCR.out.cell d0 (by simp)
          have hrr : (l != dd) = r := by have := HST2.out; rw [hdd] at this; exact this.symm
          have hkdi : (k : Int) < (ld : Int) := by omega
          clear hdd d0
          go_wp2_with fail
          (go_region_held3 (fun w' => w'.cell? ⟨ba, oa + k * 4, none⟩ = some (.int .u8 ka) ∧ w'.cell? ⟨ba, oa + k * 4 + 1, none⟩ = some (.int .i64 ia) ∧ w'.cell? ⟨ba, oa + k * 4 + 2, none⟩ = some (.string sa) ∧ w'.cell? ⟨ba, oa + k * 4 + 3, none⟩ = some (.bool ta) ∧ w'.cell? ⟨bb, ob + k * 4, none⟩ = some (.int .u8 kb) ∧ w'.cell? ⟨bb, ob + k * 4 + 1, none⟩ = some (.int .i64 ib) ∧ w'.cell? ⟨bb, ob + k * 4 + 2, none⟩ = some (.string sb) ∧ w'.cell? ⟨bb, ob + k * 4 + 3, none⟩ = some (.bool tb) ∧ w'.cell? ⟨bd, od + k, none⟩ = some (.bool dd)) (first | with_reducible exact ⟨xa0, xa1, xa2, xa3, xb0, xb1, xb2, xb3, xd0⟩ | with_reducible exact ⟨ya0, ya1, ya2, ya3, yb0, yb1, yb2, yb3, yd0⟩ | go_keep)
      (first
       | (go_at_call 30; (with_reducible refine (HSA.out _).mono ?_); rintro e w2 ⟨rfl, hC2⟩; have ya0 := hC2.cell (p := ⟨ba, oa + k * 4, none⟩) (by first | exact ya0 | exact xa0) (by simp); have ya1 := hC2.cell (p := ⟨ba, oa + k * 4 + 1, none⟩) (by first | exact ya1 | exact xa1) (by simp); have ya2 := hC2.cell (p := ⟨ba, oa + k * 4 + 2, none⟩) (by first | exact ya2 | exact xa2) (by simp); have ya3 := hC2.cell (p := ⟨ba, oa + k * 4 + 3, none⟩) (by first | exact ya3 | exact xa3) (by simp); have yb0 := hC2.cell (p := ⟨bb, ob + k * 4, none⟩) (by first | exact yb0 | exact xb0) (by simp); have yb1 := hC2.cell (p := ⟨bb, ob + k * 4 + 1, none⟩) (by first | exact yb1 | exact xb1) (by simp); have yb2 := hC2.cell (p := ⟨bb, ob + k * 4 + 2, none⟩) (by first | exact yb2 | exact xb2) (by simp); have yb3 := hC2.cell (p := ⟨bb, ob + k * 4 + 3, none⟩) (by first | exact yb3 | exact xb3) (by simp); have yd0 := hC2.cell (p := ⟨bd, od + k, none⟩) (by first | exact yd0 | exact xd0) (by simp); have HCC := Lib.hid (Chg.trans (S := []) (a := w) (by first | exact HCC.out | exact HCR.out.same) hC2); clear hC2)))
          go_wp2_with fail
          (go_region_held3 (fun w' => w'.cell? ⟨ba, oa + k * 4, none⟩ = some (.int .u8 ka) ∧ w'.cell? ⟨ba, oa + k * 4 + 1, none⟩ = some (.int .i64 ia) ∧ w'.cell? ⟨ba, oa + k * 4 + 2, none⟩ = some (.string sa) ∧ w'.cell? ⟨ba, oa + k * 4 + 3, none⟩ = some (.bool ta) ∧ w'.cell? ⟨bb, ob + k * 4, none⟩ = some (.int .u8 kb) ∧ w'.cell? ⟨bb, ob + k * 4 + 1, none⟩ = some (.int .i64 ib) ∧ w'.cell? ⟨bb, ob + k * 4 + 2, none⟩ = some (.string sb) ∧ w'.cell? ⟨bb, ob + k * 4 + 3, none⟩ = some (.bool tb) ∧ w'.cell? ⟨bd, od + k, none⟩ = some (.bool dd)) (first | with_reducible exact ⟨ya0, ya1, ya2, ya3, yb0, yb1, yb2, yb3, yd0⟩ | with_reducible exact ⟨za0, za1, za2, za3, zb0, zb1, zb2, zb3, zd0⟩ | go_keep)
      (first
       | (go_at_call 31; (with_reducible refine (HLE.out _).mono ?_); rintro e w2 ⟨rfl, hC2⟩; have za0 := hC2.cell (p := ⟨ba, oa + k * 4, none⟩) (by first | exact za0 | exact ya0) (by simp); have za1 := hC2.cell (p := ⟨ba, oa + k * 4 + 1, none⟩) (by first | exact za1 | exact ya1) (by simp); have za2 := hC2.cell (p := ⟨ba, oa + k * 4 + 2, none⟩) (by first | exact za2 | exact ya2) (by simp); have za3 := hC2.cell (p := ⟨ba, oa + k * 4 + 3, none⟩) (by first | exact za3 | exact ya3) (by simp); have zb0 := hC2.cell (p := ⟨bb, ob + k * 4, none⟩) (by first | exact zb0 | exact yb0) (by simp); have zb1 := hC2.cell (p := ⟨bb, ob + k * 4 + 1, none⟩) (by first | exact zb1 | exact yb1) (by simp); have zb2 := hC2.cell (p := ⟨bb, ob + k * 4 + 2, none⟩) (by first | exact zb2 | exact yb2) (by simp); have zb3 := hC2.cell (p := ⟨bb, ob + k * 4 + 3, none⟩) (by first | exact zb3 | exact yb3) (by simp); have zd0 := hC2.cell (p := ⟨bd, od + k, none⟩) (by first | exact zd0 | exact yd0) (by simp); have HCD := Lib.hid (Chg.trans (S := []) (a := w) (by first | exact HCD.out | exact HCC.out.same) hC2); clear hC2)))
          go_wp2_with fail
          go_ret
          exact ⟨by rw [← hrr]; cases l <;> cases dd <;> rfl, HCD.out⟩
        · have hrr : l = r := by
            have := HST2.out
            rw [List.getElem?_eq_none (by rw [← HED.out]; omega)] at this
            simpa using this.symm
          have hkdi : ¬ (k : Int) < (ld : Int) := by omega
          have d1 : decide ((k : Int) < (ld : Int)) = false := by simpa using hkdi
          have d2 : decide (k < ld) = false := by simpa using hkd
          go_wp2_with fail
          (go_region_held3 (fun w' => w'.cell? ⟨ba, oa + k * 4, none⟩ = some (.int .u8 ka) ∧ w'.cell? ⟨ba, oa + k * 4 + 1, none⟩ = some (.int .i64 ia) ∧ w'.cell? ⟨ba, oa + k * 4 + 2, none⟩ = some (.string sa) ∧ w'.cell? ⟨ba, oa + k * 4 + 3, none⟩ = some (.bool ta) ∧ w'.cell? ⟨bb, ob + k * 4, none⟩ = some (.int .u8 kb) ∧ w'.cell? ⟨bb, ob + k * 4 + 1, none⟩ = some (.int .i64 ib) ∧ w'.cell? ⟨bb, ob + k * 4 + 2, none⟩ = some (.string sb) ∧ w'.cell? ⟨bb, ob + k * 4 + 3, none⟩ = some (.bool tb)) (first | with_reducible exact ⟨xa0, xa1, xa2, xa3, xb0, xb1, xb2, xb3⟩ | with_reducible exact ⟨ya0, ya1, ya2, ya3, yb0, yb1, yb2, yb3⟩ | go_keep)
      (first
       | (go_at_call 30; (with_reducible refine (HSA.out _).mono ?_); rintro e w2 ⟨rfl, hC2⟩; have ya0 := hC2.cell (p := ⟨ba, oa + k * 4, none⟩) (by first | exact ya0 | exact xa0) (by simp); have ya1 := hC2.cell (p := ⟨ba, oa + k * 4 + 1, none⟩) (by first | exact ya1 | exact xa1) (by simp); have ya2 := hC2.cell (p := ⟨ba, oa + k * 4 + 2, none⟩) (by first | exact ya2 | exact xa2) (by simp); have ya3 := hC2.cell (p := ⟨ba, oa + k * 4 + 3, none⟩) (by first | exact ya3 | exact xa3) (by simp); have yb0 := hC2.cell (p := ⟨bb, ob + k * 4, none⟩) (by first | exact yb0 | exact xb0) (by simp); have yb1 := hC2.cell (p := ⟨bb, ob + k * 4 + 1, none⟩) (by first | exact yb1 | exact xb1) (by simp); have yb2 := hC2.cell (p := ⟨bb, ob + k * 4 + 2, none⟩) (by first | exact yb2 | exact xb2) (by simp); have yb3 := hC2.cell (p := ⟨bb, ob + k * 4 + 3, none⟩) (by first | exact yb3 | exact xb3) (by simp); have HCC := Lib.hid (Chg.trans (S := []) (a := w) (by first | exact HCC.out | exact HCR.out.same) hC2); clear hC2)))
          go_wp2_with fail
          first | (go_region_with (first | (go_at_call 31; (with_reducible refine (HLE.out _).mono ?_); rintro e w3 ⟨rfl, hC3⟩; have HCD := Lib.hid (Chg.trans (S := []) (a := w) HCC.out.same hC3); clear hC3))) | fail
          all_goals
            go_wp2_with fail
            go_ret
            exact ⟨by rw [← hrr]; cases l <;> rfl, HCD.out⟩
    · have hrf : r = false := by
        rw [← HRK.out]
        exact lessK_done (by have := HEA.out; have := HEB.out; have := HEM.out; omega)
      subst hrf
      go_wp2_with fail
      go_ret
      exact ⟨rfl, HCR.out⟩
end Go.Proofs.Ytkdhhafoohnlnaa
