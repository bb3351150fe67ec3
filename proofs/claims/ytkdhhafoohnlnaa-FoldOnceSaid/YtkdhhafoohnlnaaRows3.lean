/-
  The walks of EqualFunc, fold.same and the reference's same, Less, SameRow, SameRows. (Printed by mk_rows3.py.)
-/
import Derived.Test.YtkdhhafoohnlnaaRows2
namespace Go.Proofs.Ytkdhhafoohnlnaa
open Go.RowKit


set_option maxRecDepth 100000 in
set_option maxHeartbeats 4000000 in
theorem eqf_any (va vb : Value) (a b : List Vl) (w : World) (ha : RowAt w va a) (hb : RowAt w vb b) (hla : a.length ≤ 1000) :
    Calls Try.prog 35 #[va, vb, .func (.func 30) #[] #[]] w fun e w' => e = .returned (.bool (sameK a b)) ∧ Chg [] w w' := by
  obtain ⟨Aa, ca, rfl, hca⟩ := ha
  obtain ⟨Ab, cb, rfl, hcb⟩ := hb
  by_cases hlen : a.length = b.length
  · obtain ⟨r, hr⟩ : ∃ r, r = sameK a b := ⟨_, rfl⟩
    obtain ⟨n, en⟩ : ∃ n, n = a.length := ⟨_, rfl⟩
    rw [← hr, ← hlen, ← en]
    rw [← en] at hla
    have HR0 : Hid (sameK (a.drop 0) (b.drop 0) = r) := Lib.hid (by rw [hr]; rfl)
    have HEA := Lib.hid en
    have HEB := Lib.hid hlen
    have HCA := Lib.hid hca
    have HCB := Lib.hid hcb
    have e0 : ((n : Int) != (n : Int)) = false := by simp
    clear hca hcb hr en hlen
    go_enter Try.func35, Try.ntmps35
    go_wp2_with fail
    go_loopw [17] (fun i wr => ∃ k : Nat, i = .int .i64 k ∧ k ≤ n ∧ sameK (a.drop k) (b.drop k) = r ∧ Chg [] w wr) (fun i _ => n - (intOf i).toNat)
    case atStart => exact ⟨0, rfl, by omega, HR0.out, Chg.refl [] w⟩
    case round =>
      obtain ⟨k, rfl, hk, hrk, hCr⟩ := hrel
      have HRK := Lib.hid hrk
      have HCR := Lib.hid hCr
      clear hrk hCr HR0
      by_cases hlt : k < n
      · obtain ⟨x, hx⟩ : ∃ x, a[k]? = some x := ⟨_, List.getElem?_eq_getElem (by rw [← HEA.out]; omega)⟩
        obtain ⟨y, hy⟩ : ∃ y, b[k]? = some y := ⟨_, List.getElem?_eq_getElem (by rw [← HEB.out, ← HEA.out]; omega)⟩
        obtain ⟨ba, oa, rfl, a0, a1, a2, a3⟩ := HCA.out k x hx
        obtain ⟨bb, ob, rfl, b0, b1, b2, b3⟩ := HCB.out k y hy
        have xa0 := HCR.out.cell a0 (by simp)
        have xa1 := HCR.out.cell a1 (by simp)
        have xa2 := HCR.out.cell a2 (by simp)
        have xa3 := HCR.out.cell a3 (by simp)
        have xb0 := HCR.out.cell b0 (by simp)
        have xb1 := HCR.out.cell b1 (by simp)
        have xb2 := HCR.out.cell b2 (by simp)
        have xb3 := HCR.out.cell b3 (by simp)
        have HST := Lib.hid (sameK_step hx hy)
        rw [HRK.out] at HST
        have HSA := Lib.hid (fun w => same_any x y w)
        obtain ⟨c, hc⟩ : ∃ c, c = sameV x y := ⟨_, rfl⟩
        rw [← hc] at HSA HST
        have hki : (k : Int) < (n : Int) := by omega
        have hbl : bb < wr.heap.size := World.block_lt_of_cell? _ _ xb0
        clear hx hy hc a0 a1 a2 a3 b0 b1 b2 b3
        obtain ⟨ka, ia, sa, ta⟩ := x
        obtain ⟨kb, ib, sb, tb⟩ := y
        unfold Vl.val at *
        simp only at xa0 xa1 xa2 xa3 xb0 xb1 xb2 xb3
        cases c with
        | true =>
          have hst : r = sameK (a.drop (k + 1)) (b.drop (k + 1)) := by have := HST.out; simpa using this
          have HNX := Lib.hid hst
          clear hst HST
          go_wp2_with (first | (go_at_call 30; refine (HSA.out _).mono ?_; rintro e w2 ⟨rfl, hC2⟩; have HCC := Lib.hid (Chg.trans (S := []) (a := w) ((HCR.out.alloc (.cells #[.int .u8 ka, .int .i64 ia, .string sa, .bool ta] 39)).alloc (.cells #[.int .u8 kb, .int .i64 ib, .string sb, .bool tb] 39)) hC2); clear hC2))
          go_roundw
          case measure => simp [intOf]; omega
          case rel => exact ⟨k + 1, by go_num, by omega, HNX.out.symm, HCC.out⟩
        | false =>
          have hst : r = false := by have := HST.out; simpa using this
          subst hst
          go_wp2_with (first | (go_at_call 30; refine (HSA.out _).mono ?_; rintro e w2 ⟨rfl, hC2⟩; have HCC := Lib.hid (Chg.trans (S := []) (a := w) ((HCR.out.alloc (.cells #[.int .u8 ka, .int .i64 ia, .string sa, .bool ta] 39)).alloc (.cells #[.int .u8 kb, .int .i64 ib, .string sb, .bool tb] 39)) hC2); clear hC2))
          go_ret
          exact ⟨rfl, HCC.out⟩
      · have hrt : r = true := by
          rw [← HRK.out, List.drop_of_length_le (by have := HEA.out; omega), List.drop_of_length_le (by have := HEA.out; have := HEB.out; omega)]
          rfl
        subst hrt
        go_wp2_with fail
        go_ret
        exact ⟨rfl, HCR.out⟩
  · rw [sameK_len hlen]
    have e0 : ((a.length : Int) != (b.length : Int)) = true := by simp; omega
    have e1 : (a.length != b.length) = true := by simpa using hlen
    clear hca hcb
    go_enter Try.func35, Try.ntmps35
    go_wp2_with fail
    go_ret
    exact ⟨rfl, Chg.refl [] w⟩


theorem fsame_any (va vb : Value) (a b : List Vl) (w : World) (ha : RowAt w va a) (hb : RowAt w vb b) (hla : a.length ≤ 1000) :
    Calls Try.prog 25 #[va, vb] w fun e w' => e = .returned (.bool (sameK a b)) ∧ Chg [] w w' := by
  have HE := Lib.hid (eqf_any va vb a b w ha hb hla)
  clear ha hb hla
  go_enter Try.func25, Try.ntmps25
  go_wp2_with fail
  refine HE.out.mono ?_
  rintro e w1 ⟨rfl, hC1⟩
  have HC1 := Lib.hid hC1
  clear hC1
  go_wp2_with fail
  go_ret
  exact ⟨rfl, HC1.out⟩


set_option maxRecDepth 100000 in
set_option maxHeartbeats 4000000 in
theorem rsame_row (va vb : Value) (a b : List Vl) (w : World) (ha : RowAt w va a) (hb : RowAt w vb b) (hla : a.length ≤ 1000) :
    Calls Try.prog 26 #[va, vb] w fun e w' => e = .returned (.bool (sameK a b)) ∧ Chg [] w w' := by
  obtain ⟨Aa, ca, rfl, hca⟩ := ha
  obtain ⟨Ab, cb, rfl, hcb⟩ := hb
  by_cases hlen : a.length = b.length
  · obtain ⟨r, hr⟩ : ∃ r, r = sameK a b := ⟨_, rfl⟩
    obtain ⟨n, en⟩ : ∃ n, n = a.length := ⟨_, rfl⟩
    rw [← hr, ← hlen, ← en]
    rw [← en] at hla
    have HR0 : Hid (sameK (a.drop 0) (b.drop 0) = r) := Lib.hid (by rw [hr]; rfl)
    have HEA := Lib.hid en
    have HEB := Lib.hid hlen
    have HCA := Lib.hid hca
    have HCB := Lib.hid hcb
    have e0 : ((n : Int) != (n : Int)) = false := by simp
    clear hca hcb hr en hlen
    go_enter Try.func26, Try.ntmps26
    go_wp2_with fail
    go_loopw [13] (fun i wr => ∃ k : Nat, i = .int .i64 k ∧ k ≤ n ∧ sameK (a.drop k) (b.drop k) = r ∧ Chg [] w wr) (fun i _ => n - (intOf i).toNat)
    case atStart => exact ⟨0, rfl, by omega, HR0.out, Chg.refl [] w⟩
    case round =>
      obtain ⟨k, rfl, hk, hrk, hCr⟩ := hrel
      have HRK := Lib.hid hrk
      have HCR := Lib.hid hCr
      clear hrk hCr HR0
      by_cases hlt : k < n
      · obtain ⟨x, hx⟩ : ∃ x, a[k]? = some x := ⟨_, List.getElem?_eq_getElem (by rw [← HEA.out]; omega)⟩
        obtain ⟨y, hy⟩ : ∃ y, b[k]? = some y := ⟨_, List.getElem?_eq_getElem (by rw [← HEB.out, ← HEA.out]; omega)⟩
        obtain ⟨ba, oa, rfl, a0, a1, a2, a3⟩ := HCA.out k x hx
        obtain ⟨bb, ob, rfl, b0, b1, b2, b3⟩ := HCB.out k y hy
        have xa0 := HCR.out.cell a0 (by simp)
        have xa1 := HCR.out.cell a1 (by simp)
        have xa2 := HCR.out.cell a2 (by simp)
        have xa3 := HCR.out.cell a3 (by simp)
        have xb0 := HCR.out.cell b0 (by simp)
        have xb1 := HCR.out.cell b1 (by simp)
        have xb2 := HCR.out.cell b2 (by simp)
        have xb3 := HCR.out.cell b3 (by simp)
        have HST := Lib.hid (sameK_step hx hy)
        rw [HRK.out] at HST
        have HSA := Lib.hid (fun w => rsame_any x y w)
        obtain ⟨c, hc⟩ : ∃ c, c = sameV x y := ⟨_, rfl⟩
        rw [← hc] at HSA HST
        have hki : (k : Int) < (n : Int) := by omega
        have hbl : bb < wr.heap.size := World.block_lt_of_cell? _ _ xb0
        clear hx hy hc a0 a1 a2 a3 b0 b1 b2 b3
        obtain ⟨ka, ia, sa, ta⟩ := x
        obtain ⟨kb, ib, sb, tb⟩ := y
        unfold Vl.val at *
        simp only at xa0 xa1 xa2 xa3 xb0 xb1 xb2 xb3
        cases c with
        | true =>
          have hst : r = sameK (a.drop (k + 1)) (b.drop (k + 1)) := by have := HST.out; simpa using this
          have HNX := Lib.hid hst
          clear hst HST
          go_wp2_with fail
          (go_region_held3 (fun w' => w'.cell? ⟨ba, oa + k * 4, none⟩ = some (.int .u8 ka) ∧ w'.cell? ⟨ba, oa + k * 4 + 1, none⟩ = some (.int .i64 ia) ∧ w'.cell? ⟨ba, oa + k * 4 + 2, none⟩ = some (.string sa) ∧ w'.cell? ⟨ba, oa + k * 4 + 3, none⟩ = some (.bool ta) ∧ w'.cell? ⟨bb, ob + k * 4, none⟩ = some (.int .u8 kb) ∧ w'.cell? ⟨bb, ob + k * 4 + 1, none⟩ = some (.int .i64 ib) ∧ w'.cell? ⟨bb, ob + k * 4 + 2, none⟩ = some (.string sb) ∧ w'.cell? ⟨bb, ob + k * 4 + 3, none⟩ = some (.bool tb)) (first | with_reducible exact ⟨xa0, xa1, xa2, xa3, xb0, xb1, xb2, xb3⟩ | with_reducible exact ⟨ya0, ya1, ya2, ya3, yb0, yb1, yb2, yb3⟩ | go_keep)
      (first
       | (go_at_call 32; (with_reducible refine (HSA.out _).mono ?_); rintro e w2 ⟨rfl, hC2⟩; have ya0 := hC2.cell (p := ⟨ba, oa + k * 4, none⟩) (by first | exact ya0 | exact xa0) (by simp); have ya1 := hC2.cell (p := ⟨ba, oa + k * 4 + 1, none⟩) (by first | exact ya1 | exact xa1) (by simp); have ya2 := hC2.cell (p := ⟨ba, oa + k * 4 + 2, none⟩) (by first | exact ya2 | exact xa2) (by simp); have ya3 := hC2.cell (p := ⟨ba, oa + k * 4 + 3, none⟩) (by first | exact ya3 | exact xa3) (by simp); have yb0 := hC2.cell (p := ⟨bb, ob + k * 4, none⟩) (by first | exact yb0 | exact xb0) (by simp); have yb1 := hC2.cell (p := ⟨bb, ob + k * 4 + 1, none⟩) (by first | exact yb1 | exact xb1) (by simp); have yb2 := hC2.cell (p := ⟨bb, ob + k * 4 + 2, none⟩) (by first | exact yb2 | exact xb2) (by simp); have yb3 := hC2.cell (p := ⟨bb, ob + k * 4 + 3, none⟩) (by first | exact yb3 | exact xb3) (by simp); have HCC := Lib.hid (Chg.trans (S := []) (a := w) (by first | exact HCC.out | exact HCR.out.same) hC2); clear hC2)))
          go_wp2_with fail
          go_roundw
          case measure => simp [intOf]; omega
          case rel => exact ⟨k + 1, by go_num, by omega, HNX.out.symm, HCC.out⟩
        | false =>
          have hst : r = false := by have := HST.out; simpa using this
          subst hst
          go_wp2_with fail
          (go_region_held3 (fun w' => w'.cell? ⟨ba, oa + k * 4, none⟩ = some (.int .u8 ka) ∧ w'.cell? ⟨ba, oa + k * 4 + 1, none⟩ = some (.int .i64 ia) ∧ w'.cell? ⟨ba, oa + k * 4 + 2, none⟩ = some (.string sa) ∧ w'.cell? ⟨ba, oa + k * 4 + 3, none⟩ = some (.bool ta) ∧ w'.cell? ⟨bb, ob + k * 4, none⟩ = some (.int .u8 kb) ∧ w'.cell? ⟨bb, ob + k * 4 + 1, none⟩ = some (.int .i64 ib) ∧ w'.cell? ⟨bb, ob + k * 4 + 2, none⟩ = some (.string sb) ∧ w'.cell? ⟨bb, ob + k * 4 + 3, none⟩ = some (.bool tb)) (first | with_reducible exact ⟨xa0, xa1, xa2, xa3, xb0, xb1, xb2, xb3⟩ | with_reducible exact ⟨ya0, ya1, ya2, ya3, yb0, yb1, yb2, yb3⟩ | go_keep)
      (first
       | (go_at_call 32; (with_reducible refine (HSA.out _).mono ?_); rintro e w2 ⟨rfl, hC2⟩; have ya0 := hC2.cell (p := ⟨ba, oa + k * 4, none⟩) (by first | exact ya0 | exact xa0) (by simp); have ya1 := hC2.cell (p := ⟨ba, oa + k * 4 + 1, none⟩) (by first | exact ya1 | exact xa1) (by simp); have ya2 := hC2.cell (p := ⟨ba, oa + k * 4 + 2, none⟩) (by first | exact ya2 | exact xa2) (by simp); have ya3 := hC2.cell (p := ⟨ba, oa + k * 4 + 3, none⟩) (by first | exact ya3 | exact xa3) (by simp); have yb0 := hC2.cell (p := ⟨bb, ob + k * 4, none⟩) (by first | exact yb0 | exact xb0) (by simp); have yb1 := hC2.cell (p := ⟨bb, ob + k * 4 + 1, none⟩) (by first | exact yb1 | exact xb1) (by simp); have yb2 := hC2.cell (p := ⟨bb, ob + k * 4 + 2, none⟩) (by first | exact yb2 | exact xb2) (by simp); have yb3 := hC2.cell (p := ⟨bb, ob + k * 4 + 3, none⟩) (by first | exact yb3 | exact xb3) (by simp); have HCC := Lib.hid (Chg.trans (S := []) (a := w) (by first | exact HCC.out | exact HCR.out.same) hC2); clear hC2)))
          go_wp2_with fail
          go_ret
          exact ⟨rfl, HCC.out⟩
      · have hrt : r = true := by
          rw [← HRK.out, List.drop_of_length_le (by have := HEA.out; omega), List.drop_of_length_le (by have := HEA.out; have := HEB.out; omega)]
          rfl
        subst hrt
        go_wp2_with fail
        go_ret
        exact ⟨rfl, HCR.out⟩
  · rw [sameK_len hlen]
    have e0 : ((a.length : Int) != (b.length : Int)) = true := by simp; omega
    have e1 : (a.length != b.length) = true := by simpa using hlen
    clear hca hcb
    go_enter Try.func26, Try.ntmps26
    go_wp2_with fail
    go_ret
    exact ⟨rfl, Chg.refl [] w⟩

end Go.Proofs.Ytkdhhafoohnlnaa
