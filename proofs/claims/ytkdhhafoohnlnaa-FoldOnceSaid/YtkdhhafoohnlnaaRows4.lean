/-
  The walks of the reference's Less, SameRow, SameRows. (Printed by mk_rows4.py.)
-/
import Derived.Test.YtkdhhafoohnlnaaRows3
namespace Go.Proofs.Ytkdhhafoohnlnaa
open Go.RowKit

theorem less_swap {x y : Vl} (h : sameV x y = false) : lessV y x = !lessV x y := by
  unfold sameV at h
  cases h1 : lessV x y with
  | true =>
    have := lexL_asymm _ _ h1
    exact this
  | false =>
    rw [h1] at h
    simpa using h

set_option maxRecDepth 100000 in
set_option maxHeartbeats 8000000 in
theorem rLess_any (va vb vd : Value) (a b : List Vl) (d : List Bool) (w : World) (ha : RowAt w va a) (hb : RowAt w vb b) (hd : BoolAt w vd d) (hla : a.length ≤ 1000) :
    Calls Try.prog 18 #[va, vb, vd] w fun e w' => e = .returned (.bool (lessK a b d)) ∧ Chg [] w w' := by
  obtain ⟨Aa, ca, rfl, hca⟩ := ha
  obtain ⟨Ab, cb, rfl, hcb⟩ := hb
  obtain ⟨Ad, cd, rfl, hcd⟩ := hd
  obtain ⟨r, hr⟩ : ∃ r, r = lessK a b d := ⟨_, rfl⟩
  obtain ⟨la, ela⟩ : ∃ n, n = a.length := ⟨_, rfl⟩
  obtain ⟨lb, elb⟩ : ∃ n, n = b.length := ⟨_, rfl⟩
  obtain ⟨ld, eld⟩ : ∃ n, n = d.length := ⟨_, rfl⟩
  rw [← hr, ← ela, ← elb, ← eld]
  rw [← ela] at hla
  have HR0 : Hid (lessK (a.drop 0) (b.drop 0) (d.drop 0) = r) := Lib.hid (by rw [hr]; rfl)
  have HEA := Lib.hid ela
  have HEB := Lib.hid elb
  have HED := Lib.hid eld
  have HCA := Lib.hid hca
  have HCB := Lib.hid hcb
  have HCD := Lib.hid hcd
  clear hca hcb hcd hr ela elb eld
  go_enter Try.func18, Try.ntmps18
  go_wp2_with fail
  go_loopw [10] (fun i wr => ∃ k : Nat, i = .int .i64 k ∧ k ≤ la ∧ lessK (a.drop k) (b.drop k) (d.drop k) = r ∧ Chg [] w wr) (fun i _ => la - (intOf i).toNat)
  case atStart => exact ⟨0, rfl, by omega, HR0.out, Chg.refl [] w⟩
  case round =>
    obtain ⟨k, rfl, hk, hrk, hCr⟩ := hrel
    have HRK := Lib.hid hrk
    have HCR := Lib.hid hCr
    clear hrk hCr HR0
    by_cases hlt : k < la
    · by_cases hlb : k < lb
      · obtain ⟨x, hx⟩ : ∃ x, a[k]? = some x := ⟨_, List.getElem?_eq_getElem (by rw [← HEA.out]; omega)⟩
        obtain ⟨y, hy⟩ : ∃ y, b[k]? = some y := ⟨_, List.getElem?_eq_getElem (by rw [← HEB.out]; omega)⟩
        obtain ⟨ba, oa, rfl, a0, a1, a2, a3⟩ := HCA.out k x hx
        obtain ⟨bb, ob, rfl, b0, b1, b2, b3⟩ := HCB.out k y hy
        have xa0 := HCR.out.cell a0 (by simp)
        have xa1 := HCR.out.cell a1 (by simp)
        have xa2 := HCR.out.cell a2 (by simp)
        have xa3 := HCR.out.cell a3 (by simp)
        have xb0 := HCR.out.cell b0 (by simp)
        have xb1 := HCR.out.cell b1 (by simp)
        have xb2 := HCR.out.cell b2 (by simp)
        have xb3 := HCR.out.cell b3 (by simp)
        have HST := Lib.hid (lessK_step (d := d) hx hy)
        rw [HRK.out] at HST
        have HSA := Lib.hid (fun w => rsame_any x y w)
        have HLE := Lib.hid (fun w => rless_any x y w)
        have HGE := Lib.hid (fun w => rless_any y x w)
        have hsw := @less_swap x y
        obtain ⟨c, hc⟩ : ∃ c, c = sameV x y := ⟨_, rfl⟩
        obtain ⟨l, hl⟩ : ∃ l, l = lessV x y := ⟨_, rfl⟩
        obtain ⟨g, hg⟩ : ∃ g, g = lessV y x := ⟨_, rfl⟩
        rw [← hc] at HSA HST hsw
        rw [← hl] at HLE HST hsw
        rw [← hg] at HGE hsw
        have HSW := Lib.hid hsw
        have hki : (k : Int) < (la : Int) := by omega
        have hkj : (k : Int) < (lb : Int) := by omega
        have q1 : decide ((lb : Int) ≤ (k : Int)) = false := by simp; omega
        have q2 : decide (lb ≤ k) = false := by simp; omega
        clear hx hy hc hl hg hsw a0 a1 a2 a3 b0 b1 b2 b3
        obtain ⟨ka, ia, sa, ta⟩ := x
        obtain ⟨kb, ib, sb, tb⟩ := y
        unfold Vl.val at *
        simp only at xa0 xa1 xa2 xa3 xb0 xb1 xb2 xb3
        cases c with
        | true =>
          have hst : r = lessK (a.drop (k + 1)) (b.drop (k + 1)) (d.drop (k + 1)) := by have := HST.out; simpa using this
          have HNX := Lib.hid hst
          clear hst HST HSW
          go_wp2_with fail
          (go_region_held3 (fun w' => w'.cell? ⟨ba, oa + k * 4, none⟩ = some (.int .u8 ka) ∧ w'.cell? ⟨ba, oa + k * 4 + 1, none⟩ = some (.int .i64 ia) ∧ w'.cell? ⟨ba, oa + k * 4 + 2, none⟩ = some (.string sa) ∧ w'.cell? ⟨ba, oa + k * 4 + 3, none⟩ = some (.bool ta) ∧ w'.cell? ⟨bb, ob + k * 4, none⟩ = some (.int .u8 kb) ∧ w'.cell? ⟨bb, ob + k * 4 + 1, none⟩ = some (.int .i64 ib) ∧ w'.cell? ⟨bb, ob + k * 4 + 2, none⟩ = some (.string sb) ∧ w'.cell? ⟨bb, ob + k * 4 + 3, none⟩ = some (.bool tb)) (first | with_reducible exact ⟨xa0, xa1, xa2, xa3, xb0, xb1, xb2, xb3⟩ | with_reducible exact ⟨ya0, ya1, ya2, ya3, yb0, yb1, yb2, yb3⟩ | go_keep)
      (first
       | (go_at_call 32; (with_reducible refine (HSA.out _).mono ?_); rintro e w2 ⟨rfl, hC2⟩; have ya0 := hC2.cell (p := ⟨ba, oa + k * 4, none⟩) (by first | exact ya0 | exact xa0) (by simp); have ya1 := hC2.cell (p := ⟨ba, oa + k * 4 + 1, none⟩) (by first | exact ya1 | exact xa1) (by simp); have ya2 := hC2.cell (p := ⟨ba, oa + k * 4 + 2, none⟩) (by first | exact ya2 | exact xa2) (by simp); have ya3 := hC2.cell (p := ⟨ba, oa + k * 4 + 3, none⟩) (by first | exact ya3 | exact xa3) (by simp); have yb0 := hC2.cell (p := ⟨bb, ob + k * 4, none⟩) (by first | exact yb0 | exact xb0) (by simp); have yb1 := hC2.cell (p := ⟨bb, ob + k * 4 + 1, none⟩) (by first | exact yb1 | exact xb1) (by simp); have yb2 := hC2.cell (p := ⟨bb, ob + k * 4 + 2, none⟩) (by first | exact yb2 | exact xb2) (by simp); have yb3 := hC2.cell (p := ⟨bb, ob + k * 4 + 3, none⟩) (by first | exact yb3 | exact xb3) (by simp); have HCC := Lib.hid (Chg.trans (S := []) (a := w) (by first | exact HCC.out | exact HCR.out.same) hC2); clear hC2)))
          go_wp2_with fail
          go_roundw
          case measure => simp [intOf]; omega
          case rel => exact ⟨k + 1, by go_num, by omega, HNX.out.symm, HCC.out⟩
        | false =>
          have HST2 : Hid (r = (l != (d[k]?).getD false)) := Lib.hid (by have := HST.out; simpa using this)
          have hgl : g = !l := HSW.out rfl
          have HGL := Lib.hid hgl
          clear HST HSW hgl
          by_cases hkd : k < ld
          · obtain ⟨dd, hdd⟩ : ∃ dd, d[k]? = some dd := ⟨_, List.getElem?_eq_getElem (by rw [← HED.out]; exact hkd)⟩
            obtain ⟨bd, od, rfl, d0⟩ := HCD.out k dd hdd
            have xd0 := HCR.out.cell d0 (by simp)
            have hrr : (l != dd) = r := by have := HST2.out; rw [hdd] at this; exact this.symm
            have HRR := Lib.hid hrr
            have hkdi : (k : Int) < (ld : Int) := by omega
            clear hdd d0 hrr
            cases dd with
            | true =>
              go_wp2_with fail
              (go_region_held3 (fun w' => w'.cell? ⟨ba, oa + k * 4, none⟩ = some (.int .u8 ka) ∧ w'.cell? ⟨ba, oa + k * 4 + 1, none⟩ = some (.int .i64 ia) ∧ w'.cell? ⟨ba, oa + k * 4 + 2, none⟩ = some (.string sa) ∧ w'.cell? ⟨ba, oa + k * 4 + 3, none⟩ = some (.bool ta) ∧ w'.cell? ⟨bb, ob + k * 4, none⟩ = some (.int .u8 kb) ∧ w'.cell? ⟨bb, ob + k * 4 + 1, none⟩ = some (.int .i64 ib) ∧ w'.cell? ⟨bb, ob + k * 4 + 2, none⟩ = some (.string sb) ∧ w'.cell? ⟨bb, ob + k * 4 + 3, none⟩ = some (.bool tb) ∧ w'.cell? ⟨bd, od + k, none⟩ = some (.bool true)) (first | with_reducible exact ⟨xa0, xa1, xa2, xa3, xb0, xb1, xb2, xb3, xd0⟩ | with_reducible exact ⟨ya0, ya1, ya2, ya3, yb0, yb1, yb2, yb3, yd0⟩ | go_keep)
      (first
       | (go_at_call 32; (with_reducible refine (HSA.out _).mono ?_); rintro e w2 ⟨rfl, hC2⟩; have ya0 := hC2.cell (p := ⟨ba, oa + k * 4, none⟩) (by first | exact ya0 | exact xa0) (by simp); have ya1 := hC2.cell (p := ⟨ba, oa + k * 4 + 1, none⟩) (by first | exact ya1 | exact xa1) (by simp); have ya2 := hC2.cell (p := ⟨ba, oa + k * 4 + 2, none⟩) (by first | exact ya2 | exact xa2) (by simp); have ya3 := hC2.cell (p := ⟨ba, oa + k * 4 + 3, none⟩) (by first | exact ya3 | exact xa3) (by simp); have yb0 := hC2.cell (p := ⟨bb, ob + k * 4, none⟩) (by first | exact yb0 | exact xb0) (by simp); have yb1 := hC2.cell (p := ⟨bb, ob + k * 4 + 1, none⟩) (by first | exact yb1 | exact xb1) (by simp); have yb2 := hC2.cell (p := ⟨bb, ob + k * 4 + 2, none⟩) (by first | exact yb2 | exact xb2) (by simp); have yb3 := hC2.cell (p := ⟨bb, ob + k * 4 + 3, none⟩) (by first | exact yb3 | exact xb3) (by simp); have yd0 := hC2.cell (p := ⟨bd, od + k, none⟩) (by first | exact yd0 | exact xd0) (by simp); have HCC := Lib.hid (Chg.trans (S := []) (a := w) (by first | exact HCC.out | exact HCR.out.same) hC2); clear hC2)))
              go_wp2_with fail
              (go_region_held3 (fun w' => w'.cell? ⟨ba, oa + k * 4, none⟩ = some (.int .u8 ka) ∧ w'.cell? ⟨ba, oa + k * 4 + 1, none⟩ = some (.int .i64 ia) ∧ w'.cell? ⟨ba, oa + k * 4 + 2, none⟩ = some (.string sa) ∧ w'.cell? ⟨ba, oa + k * 4 + 3, none⟩ = some (.bool ta) ∧ w'.cell? ⟨bb, ob + k * 4, none⟩ = some (.int .u8 kb) ∧ w'.cell? ⟨bb, ob + k * 4 + 1, none⟩ = some (.int .i64 ib) ∧ w'.cell? ⟨bb, ob + k * 4 + 2, none⟩ = some (.string sb) ∧ w'.cell? ⟨bb, ob + k * 4 + 3, none⟩ = some (.bool tb)) (first | with_reducible exact ⟨ya0, ya1, ya2, ya3, yb0, yb1, yb2, yb3⟩ | with_reducible exact ⟨za0, za1, za2, za3, zb0, zb1, zb2, zb3⟩ | go_keep)
      (first
       | (go_at_call 33; (with_reducible refine (HGE.out _).mono ?_); rintro e w2 ⟨rfl, hC2⟩; have za0 := hC2.cell (p := ⟨ba, oa + k * 4, none⟩) (by first | exact za0 | exact ya0) (by simp); have za1 := hC2.cell (p := ⟨ba, oa + k * 4 + 1, none⟩) (by first | exact za1 | exact ya1) (by simp); have za2 := hC2.cell (p := ⟨ba, oa + k * 4 + 2, none⟩) (by first | exact za2 | exact ya2) (by simp); have za3 := hC2.cell (p := ⟨ba, oa + k * 4 + 3, none⟩) (by first | exact za3 | exact ya3) (by simp); have zb0 := hC2.cell (p := ⟨bb, ob + k * 4, none⟩) (by first | exact zb0 | exact yb0) (by simp); have zb1 := hC2.cell (p := ⟨bb, ob + k * 4 + 1, none⟩) (by first | exact zb1 | exact yb1) (by simp); have zb2 := hC2.cell (p := ⟨bb, ob + k * 4 + 2, none⟩) (by first | exact zb2 | exact yb2) (by simp); have zb3 := hC2.cell (p := ⟨bb, ob + k * 4 + 3, none⟩) (by first | exact zb3 | exact yb3) (by simp); have HCD := Lib.hid (Chg.trans (S := []) (a := w) (by first | exact HCD.out | exact HCC.out.same) hC2); clear hC2)))
              go_wp2_with fail
              go_ret
              exact ⟨by rw [← HRR.out, HGL.out]; cases l <;> rfl, HCD.out⟩
            | false =>
              go_wp2_with fail
              (go_region_held3 (fun w' => w'.cell? ⟨ba, oa + k * 4, none⟩ = some (.int .u8 ka) ∧ w'.cell? ⟨ba, oa + k * 4 + 1, none⟩ = some (.int .i64 ia) ∧ w'.cell? ⟨ba, oa + k * 4 + 2, none⟩ = some (.string sa) ∧ w'.cell? ⟨ba, oa + k * 4 + 3, none⟩ = some (.bool ta) ∧ w'.cell? ⟨bb, ob + k * 4, none⟩ = some (.int .u8 kb) ∧ w'.cell? ⟨bb, ob + k * 4 + 1, none⟩ = some (.int .i64 ib) ∧ w'.cell? ⟨bb, ob + k * 4 + 2, none⟩ = some (.string sb) ∧ w'.cell? ⟨bb, ob + k * 4 + 3, none⟩ = some (.bool tb) ∧ w'.cell? ⟨bd, od + k, none⟩ = some (.bool false)) (first | with_reducible exact ⟨xa0, xa1, xa2, xa3, xb0, xb1, xb2, xb3, xd0⟩ | with_reducible exact ⟨ya0, ya1, ya2, ya3, yb0, yb1, yb2, yb3, yd0⟩ | go_keep)
      (first
       | (go_at_call 32; (with_reducible refine (HSA.out _).mono ?_); rintro e w2 ⟨rfl, hC2⟩; have ya0 := hC2.cell (p := ⟨ba, oa + k * 4, none⟩) (by first | exact ya0 | exact xa0) (by simp); have ya1 := hC2.cell (p := ⟨ba, oa + k * 4 + 1, none⟩) (by first | exact ya1 | exact xa1) (by simp); have ya2 := hC2.cell (p := ⟨ba, oa + k * 4 + 2, none⟩) (by first | exact ya2 | exact xa2) (by simp); have ya3 := hC2.cell (p := ⟨ba, oa + k * 4 + 3, none⟩) (by first | exact ya3 | exact xa3) (by simp); have yb0 := hC2.cell (p := ⟨bb, ob + k * 4, none⟩) (by first | exact yb0 | exact xb0) (by simp); have yb1 := hC2.cell (p := ⟨bb, ob + k * 4 + 1, none⟩) (by first | exact yb1 | exact xb1) (by simp); have yb2 := hC2.cell (p := ⟨bb, ob + k * 4 + 2, none⟩) (by first | exact yb2 | exact xb2) (by simp); have yb3 := hC2.cell (p := ⟨bb, ob + k * 4 + 3, none⟩) (by first | exact yb3 | exact xb3) (by simp); have yd0 := hC2.cell (p := ⟨bd, od + k, none⟩) (by first | exact yd0 | exact xd0) (by simp); have HCC := Lib.hid (Chg.trans (S := []) (a := w) (by first | exact HCC.out | exact HCR.out.same) hC2); clear hC2)))
              go_wp2_with fail
              (go_region_held3 (fun w' => w'.cell? ⟨ba, oa + k * 4, none⟩ = some (.int .u8 ka) ∧ w'.cell? ⟨ba, oa + k * 4 + 1, none⟩ = some (.int .i64 ia) ∧ w'.cell? ⟨ba, oa + k * 4 + 2, none⟩ = some (.string sa) ∧ w'.cell? ⟨ba, oa + k * 4 + 3, none⟩ = some (.bool ta) ∧ w'.cell? ⟨bb, ob + k * 4, none⟩ = some (.int .u8 kb) ∧ w'.cell? ⟨bb, ob + k * 4 + 1, none⟩ = some (.int .i64 ib) ∧ w'.cell? ⟨bb, ob + k * 4 + 2, none⟩ = some (.string sb) ∧ w'.cell? ⟨bb, ob + k * 4 + 3, none⟩ = some (.bool tb)) (first | with_reducible exact ⟨ya0, ya1, ya2, ya3, yb0, yb1, yb2, yb3⟩ | with_reducible exact ⟨za0, za1, za2, za3, zb0, zb1, zb2, zb3⟩ | go_keep)
      (first
       | (go_at_call 33; (with_reducible refine (HLE.out _).mono ?_); rintro e w2 ⟨rfl, hC2⟩; have za0 := hC2.cell (p := ⟨ba, oa + k * 4, none⟩) (by first | exact za0 | exact ya0) (by simp); have za1 := hC2.cell (p := ⟨ba, oa + k * 4 + 1, none⟩) (by first | exact za1 | exact ya1) (by simp); have za2 := hC2.cell (p := ⟨ba, oa + k * 4 + 2, none⟩) (by first | exact za2 | exact ya2) (by simp); have za3 := hC2.cell (p := ⟨ba, oa + k * 4 + 3, none⟩) (by first | exact za3 | exact ya3) (by simp); have zb0 := hC2.cell (p := ⟨bb, ob + k * 4, none⟩) (by first | exact zb0 | exact yb0) (by simp); have zb1 := hC2.cell (p := ⟨bb, ob + k * 4 + 1, none⟩) (by first | exact zb1 | exact yb1) (by simp); have zb2 := hC2.cell (p := ⟨bb, ob + k * 4 + 2, none⟩) (by first | exact zb2 | exact yb2) (by simp); have zb3 := hC2.cell (p := ⟨bb, ob + k * 4 + 3, none⟩) (by first | exact zb3 | exact yb3) (by simp); have HCD := Lib.hid (Chg.trans (S := []) (a := w) (by first | exact HCD.out | exact HCC.out.same) hC2); clear hC2)))
              go_wp2_with fail
              go_ret
              exact ⟨by rw [← HRR.out]; cases l <;> rfl, HCD.out⟩
          · have hrr : l = r := by
              have := HST2.out
              rw [List.getElem?_eq_none (by rw [← HED.out]; omega)] at this
              simpa using this.symm
            have HRR := Lib.hid hrr
            have hkdi : ¬ (k : Int) < (ld : Int) := by omega
            have d1 : decide ((k : Int) < (ld : Int)) = false := by simpa using hkdi
            have d2 : decide (k < ld) = false := by simpa using hkd
            clear hrr
            go_wp2_with fail
            (go_region_held3 (fun w' => w'.cell? ⟨ba, oa + k * 4, none⟩ = some (.int .u8 ka) ∧ w'.cell? ⟨ba, oa + k * 4 + 1, none⟩ = some (.int .i64 ia) ∧ w'.cell? ⟨ba, oa + k * 4 + 2, none⟩ = some (.string sa) ∧ w'.cell? ⟨ba, oa + k * 4 + 3, none⟩ = some (.bool ta) ∧ w'.cell? ⟨bb, ob + k * 4, none⟩ = some (.int .u8 kb) ∧ w'.cell? ⟨bb, ob + k * 4 + 1, none⟩ = some (.int .i64 ib) ∧ w'.cell? ⟨bb, ob + k * 4 + 2, none⟩ = some (.string sb) ∧ w'.cell? ⟨bb, ob + k * 4 + 3, none⟩ = some (.bool tb)) (first | with_reducible exact ⟨xa0, xa1, xa2, xa3, xb0, xb1, xb2, xb3⟩ | with_reducible exact ⟨ya0, ya1, ya2, ya3, yb0, yb1, yb2, yb3⟩ | go_keep)
      (first
       | (go_at_call 32; (with_reducible refine (HSA.out _).mono ?_); rintro e w2 ⟨rfl, hC2⟩; have ya0 := hC2.cell (p := ⟨ba, oa + k * 4, none⟩) (by first | exact ya0 | exact xa0) (by simp); have ya1 := hC2.cell (p := ⟨ba, oa + k * 4 + 1, none⟩) (by first | exact ya1 | exact xa1) (by simp); have ya2 := hC2.cell (p := ⟨ba, oa + k * 4 + 2, none⟩) (by first | exact ya2 | exact xa2) (by simp); have ya3 := hC2.cell (p := ⟨ba, oa + k * 4 + 3, none⟩) (by first | exact ya3 | exact xa3) (by simp); have yb0 := hC2.cell (p := ⟨bb, ob + k * 4, none⟩) (by first | exact yb0 | exact xb0) (by simp); have yb1 := hC2.cell (p := ⟨bb, ob + k * 4 + 1, none⟩) (by first | exact yb1 | exact xb1) (by simp); have yb2 := hC2.cell (p := ⟨bb, ob + k * 4 + 2, none⟩) (by first | exact yb2 | exact xb2) (by simp); have yb3 := hC2.cell (p := ⟨bb, ob + k * 4 + 3, none⟩) (by first | exact yb3 | exact xb3) (by simp); have HCC := Lib.hid (Chg.trans (S := []) (a := w) (by first | exact HCC.out | exact HCR.out.same) hC2); clear hC2)))
            go_wp2_with fail
            (go_region_held3 (fun w' => w'.cell? ⟨ba, oa + k * 4, none⟩ = some (.int .u8 ka) ∧ w'.cell? ⟨ba, oa + k * 4 + 1, none⟩ = some (.int .i64 ia) ∧ w'.cell? ⟨ba, oa + k * 4 + 2, none⟩ = some (.string sa) ∧ w'.cell? ⟨ba, oa + k * 4 + 3, none⟩ = some (.bool ta) ∧ w'.cell? ⟨bb, ob + k * 4, none⟩ = some (.int .u8 kb) ∧ w'.cell? ⟨bb, ob + k * 4 + 1, none⟩ = some (.int .i64 ib) ∧ w'.cell? ⟨bb, ob + k * 4 + 2, none⟩ = some (.string sb) ∧ w'.cell? ⟨bb, ob + k * 4 + 3, none⟩ = some (.bool tb)) (first | with_reducible exact ⟨ya0, ya1, ya2, ya3, yb0, yb1, yb2, yb3⟩ | with_reducible exact ⟨za0, za1, za2, za3, zb0, zb1, zb2, zb3⟩ | go_keep)
      (first
       | (go_at_call 33; (with_reducible refine (HLE.out _).mono ?_); rintro e w2 ⟨rfl, hC2⟩; have za0 := hC2.cell (p := ⟨ba, oa + k * 4, none⟩) (by first | exact za0 | exact ya0) (by simp); have za1 := hC2.cell (p := ⟨ba, oa + k * 4 + 1, none⟩) (by first | exact za1 | exact ya1) (by simp); have za2 := hC2.cell (p := ⟨ba, oa + k * 4 + 2, none⟩) (by first | exact za2 | exact ya2) (by simp); have za3 := hC2.cell (p := ⟨ba, oa + k * 4 + 3, none⟩) (by first | exact za3 | exact ya3) (by simp); have zb0 := hC2.cell (p := ⟨bb, ob + k * 4, none⟩) (by first | exact zb0 | exact yb0) (by simp); have zb1 := hC2.cell (p := ⟨bb, ob + k * 4 + 1, none⟩) (by first | exact zb1 | exact yb1) (by simp); have zb2 := hC2.cell (p := ⟨bb, ob + k * 4 + 2, none⟩) (by first | exact zb2 | exact yb2) (by simp); have zb3 := hC2.cell (p := ⟨bb, ob + k * 4 + 3, none⟩) (by first | exact zb3 | exact yb3) (by simp); have HCD := Lib.hid (Chg.trans (S := []) (a := w) (by first | exact HCD.out | exact HCC.out.same) hC2); clear hC2)))
            go_wp2_with fail
            go_ret
            exact ⟨by first | rfl | (rw [HRR.out]; rfl), HCD.out⟩
      · have hrf : r = false := by
          rw [← HRK.out]
          exact lessK_done (by have := HEB.out; omega)
        have q1 : decide ((lb : Int) ≤ (k : Int)) = true := by simp; omega
        have q2 : decide (lb ≤ k) = true := by simp; omega
        subst hrf
        go_wp2_with fail
        go_ret
        exact ⟨rfl, HCR.out⟩
    · have hrf : r = false := by
        rw [← HRK.out]
        exact lessK_done (by have := HEA.out; omega)
      subst hrf
      go_wp2_with fail
      go_ret
      exact ⟨rfl, HCR.out⟩

/-- A row is as itself. -/
theorem sameV_refl (x : Vl) : sameV x x = true := sameV_iff.2 rfl
set_option maxRecDepth 100000 in
set_option maxHeartbeats 8000000 in
theorem samerow_self (va vb : Value) (a : List Vl) (w : World) (ha : RowAt w va a) (hb : RowAt w vb a) (hla : a.length ≤ 1000) :
    Calls Try.prog 29 #[va, vb] w fun e w' => e = .returned (.bool true) ∧ Chg [] w w' := by
  obtain ⟨Aa, ca, rfl, hca⟩ := ha
  obtain ⟨Ab, cb, rfl, hcb⟩ := hb
  obtain ⟨n, en⟩ : ∃ n, n = a.length := ⟨_, rfl⟩
  rw [← en]
  rw [← en] at hla
  have HEA := Lib.hid en
  have HCA := Lib.hid hca
  have HCB := Lib.hid hcb
  have e0 : ((n : Int) != (n : Int)) = false := by simp
  clear hca hcb en
  go_enter Try.func29, Try.ntmps29
  go_wp2_with fail
  go_loopw [13] (fun i wr => ∃ k : Nat, i = .int .i64 k ∧ k ≤ n ∧ Chg [] w wr) (fun i _ => n - (intOf i).toNat)
  case atStart => exact ⟨0, rfl, by omega, Chg.refl [] w⟩
  case round =>
    obtain ⟨k, rfl, hk, hCr⟩ := hrel
    have HCR := Lib.hid hCr
    clear hCr
    by_cases hlt : k < n
    · obtain ⟨x, hx⟩ : ∃ x, a[k]? = some x := ⟨_, List.getElem?_eq_getElem (by rw [← HEA.out]; omega)⟩
      obtain ⟨ba, oa, rfl, a0, a1, a2, a3⟩ := HCA.out k x hx
      obtain ⟨bb, ob, rfl, b0, b1, b2, b3⟩ := HCB.out k x hx
      have xa0 := HCR.out.cell a0 (by simp)
      have xa1 := HCR.out.cell a1 (by simp)
      have xa2 := HCR.out.cell a2 (by simp)
      have xa3 := HCR.out.cell a3 (by simp)
      have xb0 := HCR.out.cell b0 (by simp)
      have xb1 := HCR.out.cell b1 (by simp)
      have xb2 := HCR.out.cell b2 (by simp)
      have xb3 := HCR.out.cell b3 (by simp)
      have HSA := Lib.hid (fun w => rsame_any x x w)
      rw [sameV_refl] at HSA
      have hki : (k : Int) < (n : Int) := by omega
      clear hx a0 a1 a2 a3 b0 b1 b2 b3
      obtain ⟨ka, ia, sa, ta⟩ := x
      unfold Vl.val at *
      simp only at xa0 xa1 xa2 xa3 xb0 xb1 xb2 xb3
      have z1 : ((ka : Int) != (ka : Int)) = false := by simp
      go_wp2_with fail
      (go_region_held3 (fun w' => w'.cell? ⟨ba, oa + k * 4, none⟩ = some (.int .u8 ka) ∧ w'.cell? ⟨ba, oa + k * 4 + 1, none⟩ = some (.int .i64 ia) ∧ w'.cell? ⟨ba, oa + k * 4 + 2, none⟩ = some (.string sa) ∧ w'.cell? ⟨ba, oa + k * 4 + 3, none⟩ = some (.bool ta) ∧ w'.cell? ⟨bb, ob + k * 4, none⟩ = some (.int .u8 ka) ∧ w'.cell? ⟨bb, ob + k * 4 + 1, none⟩ = some (.int .i64 ia) ∧ w'.cell? ⟨bb, ob + k * 4 + 2, none⟩ = some (.string sa) ∧ w'.cell? ⟨bb, ob + k * 4 + 3, none⟩ = some (.bool ta)) (first | with_reducible exact ⟨xa0, xa1, xa2, xa3, xb0, xb1, xb2, xb3⟩ | with_reducible exact ⟨ya0, ya1, ya2, ya3, yb0, yb1, yb2, yb3⟩ | go_keep)
      (first
       | (go_at_call 32; (with_reducible refine (HSA.out _).mono ?_); rintro e w2 ⟨rfl, hC2⟩; have ya0 := hC2.cell (p := ⟨ba, oa + k * 4, none⟩) (by first | exact ya0 | exact xa0) (by simp); have ya1 := hC2.cell (p := ⟨ba, oa + k * 4 + 1, none⟩) (by first | exact ya1 | exact xa1) (by simp); have ya2 := hC2.cell (p := ⟨ba, oa + k * 4 + 2, none⟩) (by first | exact ya2 | exact xa2) (by simp); have ya3 := hC2.cell (p := ⟨ba, oa + k * 4 + 3, none⟩) (by first | exact ya3 | exact xa3) (by simp); have yb0 := hC2.cell (p := ⟨bb, ob + k * 4, none⟩) (by first | exact yb0 | exact xb0) (by simp); have yb1 := hC2.cell (p := ⟨bb, ob + k * 4 + 1, none⟩) (by first | exact yb1 | exact xb1) (by simp); have yb2 := hC2.cell (p := ⟨bb, ob + k * 4 + 2, none⟩) (by first | exact yb2 | exact xb2) (by simp); have yb3 := hC2.cell (p := ⟨bb, ob + k * 4 + 3, none⟩) (by first | exact yb3 | exact xb3) (by simp); have HCC := Lib.hid (Chg.trans (S := []) (a := w) (by first | exact HCC.out | exact HCR.out.same) hC2); clear hC2)))
      go_wp2_with fail
      go_roundw
      case measure => simp [intOf]; omega
      case rel => exact ⟨k + 1, by go_num, by omega, HCC.out⟩
    · go_wp2_with fail
      go_ret
      exact ⟨rfl, HCR.out⟩
set_option maxRecDepth 100000 in
set_option maxHeartbeats 8000000 in
theorem samerows_self (va vb : Value) (K : List (List Vl)) (w : World) (ha : KeysAt w va K) (hb : KeysAt w vb K) (hla : K.length ≤ 1000) (hK : ∀ l, l ∈ K → l.length ≤ 1000) :
    Calls Try.prog 16 #[va, vb] w fun e w' => e = .returned (.bool true) ∧ Chg [] w w' := by
  obtain ⟨Aa, ca, vs, rfl, hca⟩ := ha
  obtain ⟨Ab, cb, us, rfl, hcb⟩ := hb
  obtain ⟨n, en⟩ : ∃ n, n = K.length := ⟨_, rfl⟩
  rw [← en]
  rw [← en] at hla
  have HEA := Lib.hid en
  have HCA := Lib.hid hca
  have HCB := Lib.hid hcb
  have HKK := Lib.hid hK
  have e0 : ((n : Int) != (n : Int)) = false := by simp
  clear hca hcb en hK
  go_enter Try.func16, Try.ntmps16
  go_wp2_with fail
  go_loopw [13] (fun i wr => ∃ k : Nat, i = .int .i64 k ∧ k ≤ n ∧ Chg [] w wr) (fun i _ => n - (intOf i).toNat)
  case atStart => exact ⟨0, rfl, by omega, Chg.refl [] w⟩
  case round =>
    obtain ⟨k, rfl, hk, hCr⟩ := hrel
    have HCR := Lib.hid hCr
    clear hCr
    by_cases hlt : k < n
    · obtain ⟨l, hl⟩ : ∃ l, K[k]? = some l := ⟨_, List.getElem?_eq_getElem (by rw [← HEA.out]; omega)⟩
      obtain ⟨ba, oa, rfl, a0, ra⟩ := HCA.out k l hl
      obtain ⟨bb, ob, rfl, b0, rb⟩ := HCB.out k l hl
      have xa0 := HCR.out.cell a0 (by simp)
      have xb0 := HCR.out.cell b0 (by simp)
      obtain ⟨va, hva⟩ : ∃ v, v = vs k := ⟨_, rfl⟩
      obtain ⟨vb, hvb⟩ : ∃ v, v = us k := ⟨_, rfl⟩
      rw [← hva] at xa0 ra
      rw [← hvb] at xb0 rb
      have HSA := Lib.hid (fun w' (h : Chg [] w w') => samerow_self va vb l w' (ra.chg h) (rb.chg h) (HKK.out l (List.mem_of_getElem? hl)))
      have hki : (k : Int) < (n : Int) := by omega
      clear hl a0 b0 ra rb hva hvb
      go_wp2_with fail
      go_region_held3 (fun w' => w'.cell? ⟨ba, oa + k, none⟩ = some va ∧ w'.cell? ⟨bb, ob + k, none⟩ = some vb) (first | with_reducible exact ⟨xa0, xb0⟩ | with_reducible exact ⟨ya0, yb0⟩ | go_keep)
        (first
         | (go_at_call 29; (with_reducible refine (HSA.out _ (by first | exact HCR.out.drew | exact HCR.out.same)).mono ?_); rintro e w2 ⟨rfl, hC2⟩; have ya0 := hC2.cell (p := ⟨ba, oa + k, none⟩) (by exact xa0) (by simp); have yb0 := hC2.cell (p := ⟨bb, ob + k, none⟩) (by exact xb0) (by simp); have HCC := Lib.hid (Chg.trans (S := []) (a := w) (by first | exact HCR.out.drew | exact HCR.out.same) hC2); clear hC2))
      go_wp2_with fail
      go_roundw
      case measure => simp [intOf]; omega
      case rel => exact ⟨k + 1, by go_num, by omega, HCC.out⟩
    · go_wp2_with fail
      go_ret
      exact ⟨rfl, HCR.out⟩
end Go.Proofs.Ytkdhhafoohnlnaa
