/-
  The walks of package cell: Same, Less; the reference's.
-/
import Derived.Test.YtkdhhafoohnlnaaCell2
namespace Go.Proofs.Ytkdhhafoohnlnaa
open Go.RowKit

theorem ord_eq (a b : Vl) : (ordV a b == 0) = sameV a b := by
  unfold ordV sameV
  cases h1 : lessV a b <;> cases h2 : lessV b a <;> simp
theorem ord_lt (a b : Vl) : decide (ordV a b < 0) = lessV a b := by
  unfold ordV
  cases h1 : lessV a b <;> cases h2 : lessV b a <;> simp
set_option maxRecDepth 100000 in
theorem same_any (a b : Vl) (w : World) : Calls Try.prog 30 #[a.val, b.val] w fun e w' => e = .returned (.bool (sameV a b)) ∧ Chg [] w w' := by
  have h1 := ord_eq a b
  have HO := Lib.hid (fun w => order_any a b w)
  obtain ⟨o, ho⟩ : ∃ o, o = ordV a b := ⟨_, rfl⟩
  obtain ⟨c, hc⟩ : ∃ c, c = sameV a b := ⟨_, rfl⟩
  rw [← ho, ← hc] at h1
  rw [← ho] at HO
  rw [← hc]
  clear ho hc
  obtain ⟨ka, ia, sa, ba⟩ := a
  obtain ⟨kb, ib, sb, bb⟩ := b
  unfold Vl.val at *
  go_enter Try.func30, Try.ntmps30
  go_wp2_with fail
  refine (HO.out _).mono ?_
  rintro e w1 ⟨rfl, hC1⟩
  have HC1 := Lib.hid hC1
  clear hC1
  go_wp2_with fail
  go_ret
  exact ⟨rfl, (((Chg.refl [] w).alloc _).alloc _).trans HC1.out⟩
set_option maxRecDepth 100000 in
theorem less_any (a b : Vl) (w : World) : Calls Try.prog 31 #[a.val, b.val] w fun e w' => e = .returned (.bool (lessV a b)) ∧ Chg [] w w' := by
  have h1 := ord_lt a b
  have HO := Lib.hid (fun w => order_any a b w)
  obtain ⟨o, ho⟩ : ∃ o, o = ordV a b := ⟨_, rfl⟩
  obtain ⟨c, hc⟩ : ∃ c, c = lessV a b := ⟨_, rfl⟩
  rw [← ho, ← hc] at h1
  rw [← ho] at HO
  rw [← hc]
  clear ho hc
  obtain ⟨ka, ia, sa, ba⟩ := a
  obtain ⟨kb, ib, sb, bb⟩ := b
  unfold Vl.val at *
  go_enter Try.func31, Try.ntmps31
  go_wp2_with fail
  refine (HO.out _).mono ?_
  rintro e w1 ⟨rfl, hC1⟩
  have HC1 := Lib.hid hC1
  clear hC1
  go_wp2_with fail
  go_ret
  exact ⟨by simp, (((Chg.refl [] w).alloc _).alloc _).trans HC1.out⟩

/-! ### the reference's -/
def placeV (v : Vl) : Int := if v.k = 3 then (if v.b then 2 else 1) else if v.k = 1 then 3 else if v.k = 2 then 4 else 0
theorem place_any (v : Vl) (w : World) : Calls Try.prog 38 #[v.val] w fun e w' => e = .returned (.int .i64 (placeV v)) ∧ Chg [] w w' := by
  obtain ⟨k, i, s, b⟩ := v
  unfold Vl.val placeV
  by_cases h3 : k = 3
  · subst h3
    cases b
    · go_enter Try.func38, Try.ntmps38
      go_wp2
      go_ret
      exact ⟨rfl, (Chg.refl [] w).alloc _⟩
    · go_enter Try.func38, Try.ntmps38
      go_wp2
      go_ret
      exact ⟨rfl, (Chg.refl [] w).alloc _⟩
  · have e3 : ((k : Int) == 3) = false := by simp; omega
    rw [if_neg h3]
    by_cases h1 : k = 1
    · subst h1
      go_enter Try.func38, Try.ntmps38
      go_wp2
      go_ret
      exact ⟨rfl, (Chg.refl [] w).alloc _⟩
    · have e1 : ((k : Int) == 1) = false := by simp; omega
      rw [if_neg h1]
      by_cases h2 : k = 2
      · subst h2
        go_enter Try.func38, Try.ntmps38
        go_wp2
        go_ret
        exact ⟨rfl, (Chg.refl [] w).alloc _⟩
      · have e2 : ((k : Int) == 2) = false := by simp; omega
        rw [if_neg h2]
        go_enter Try.func38, Try.ntmps38
        go_wp2
        go_ret
        exact ⟨rfl, (Chg.refl [] w).alloc _⟩
theorem place_less {a b : Vl} (h : placeV a ≠ placeV b) : decide (placeV a < placeV b) = lessV a b := by
  obtain ⟨ka, ia, sa, ba⟩ := a
  obtain ⟨kb, ib, sb, bb⟩ := b
  unfold placeV lessV vkey at *
  by_cases a3 : ka = 3 <;> by_cases a1 : ka = 1 <;> by_cases a2 : ka = 2 <;> by_cases b3 : kb = 3 <;> by_cases b1 : kb = 1 <;> by_cases b2 : kb = 2 <;> cases ba <;> cases bb <;> simp_all [lexL]
theorem place_same {a b : Vl} (h : placeV a = placeV b) : lessV a b = ((decide (a.k = 1) && decide (a.i < b.i)) || (decide (a.k = 2) && Op.bytesLess a.s.toList b.s.toList)) := by
  obtain ⟨ka, ia, sa, ba⟩ := a
  obtain ⟨kb, ib, sb, bb⟩ := b
  rw [bl]
  unfold placeV lessV vkey at *
  by_cases a3 : ka = 3 <;> by_cases a1 : ka = 1 <;> by_cases a2 : ka = 2 <;> by_cases b3 : kb = 3 <;> by_cases b1 : kb = 1 <;> by_cases b2 : kb = 2 <;> cases ba <;> cases bb <;> simp_all [lexL]

set_option maxRecDepth 100000 in
set_option maxHeartbeats 4000000 in
theorem rless_diff (a b : Vl) (w : World) (hne : placeV a ≠ placeV b) : Calls Try.prog 33 #[a.val, b.val] w fun e w' => e = .returned (.bool (lessV a b)) ∧ Chg [] w w' := by
  have h1 := place_less hne
  have HPA := Lib.hid (fun w => place_any a w)
  have HPB := Lib.hid (fun w => place_any b w)
  obtain ⟨pa, hpa⟩ : ∃ p, p = placeV a := ⟨_, rfl⟩
  obtain ⟨pb, hpb⟩ : ∃ p, p = placeV b := ⟨_, rfl⟩
  obtain ⟨c, hc⟩ : ∃ c, c = lessV a b := ⟨_, rfl⟩
  rw [← hpa, ← hpb, ← hc] at h1
  rw [← hpa] at HPA hne
  rw [← hpb] at HPB hne
  rw [← hc]
  clear hpa hpb hc
  have h2 : (pa != pb) = true := by simpa using hne
  obtain ⟨ka, ia, sa, ba⟩ := a
  obtain ⟨kb, ib, sb, bb⟩ := b
  unfold Vl.val at *
  clear hne
  go_enter Try.func33, Try.ntmps33
  go_wp2_with fail
  generalize hwa : World.alloc _ _ = wa
  have HG0 : Hid (wa.heap[w.heap.size]? = some (.cells #[.int .u8 ka, .int .i64 ia, .string sa, .bool ba] 39 (0, 0))) := Lib.hid (by rw [← hwa]; exact (Below.heap_alloc _ _ _ (by simp)).trans (heap_alloc_new w _))
  have HG1 : Hid (wa.heap[w.heap.size + 1]? = some (.cells #[.int .u8 kb, .int .i64 ib, .string sb, .bool bb] 39 (0, 0))) := Lib.hid (by rw [← hwa]; exact heap_alloc2_new w _ _)
  have HCa : Hid (Chg [] w wa) := Lib.hid (by rw [← hwa]; exact ((Chg.refl [] w).alloc _).alloc _)
  clear hwa
  have xa0 := (four HG0.out).1
  have xa1 := (four HG0.out).2.1
  have xa2 := (four HG0.out).2.2.1
  have xa3 := (four HG0.out).2.2.2
  have xb0 := (four HG1.out).1
  have xb1 := (four HG1.out).2.1
  have xb2 := (four HG1.out).2.2.1
  have xb3 := (four HG1.out).2.2.2
  go_region_held3 (fun w' => w'.cell? ⟨w.heap.size, 0, none⟩ = some (.int .u8 ka) ∧ w'.cell? ⟨w.heap.size, 1, none⟩ = some (.int .i64 ia) ∧ w'.cell? ⟨w.heap.size, 2, none⟩ = some (.string sa) ∧ w'.cell? ⟨w.heap.size, 3, none⟩ = some (.bool ba) ∧ w'.cell? ⟨w.heap.size + 1, 0, none⟩ = some (.int .u8 kb) ∧ w'.cell? ⟨w.heap.size + 1, 1, none⟩ = some (.int .i64 ib) ∧ w'.cell? ⟨w.heap.size + 1, 2, none⟩ = some (.string sb) ∧ w'.cell? ⟨w.heap.size + 1, 3, none⟩ = some (.bool bb)) (first | with_reducible exact ⟨xa0, xa1, xa2, xa3, xb0, xb1, xb2, xb3⟩ | with_reducible exact ⟨ya0, ya1, ya2, ya3, yb0, yb1, yb2, yb3⟩ | go_keep)
    (first
     | (go_at_call 38; (with_reducible refine (HPA.out _).mono ?_); rintro e w2 ⟨rfl, hC2⟩; have ya0 := hC2.cell (p := ⟨w.heap.size, 0, none⟩) (by first | exact ya0 | exact xa0) (by simp); have ya1 := hC2.cell (p := ⟨w.heap.size, 1, none⟩) (by first | exact ya1 | exact xa1) (by simp); have ya2 := hC2.cell (p := ⟨w.heap.size, 2, none⟩) (by first | exact ya2 | exact xa2) (by simp); have ya3 := hC2.cell (p := ⟨w.heap.size, 3, none⟩) (by first | exact ya3 | exact xa3) (by simp); have yb0 := hC2.cell (p := ⟨w.heap.size + 1, 0, none⟩) (by first | exact yb0 | exact xb0) (by simp); have yb1 := hC2.cell (p := ⟨w.heap.size + 1, 1, none⟩) (by first | exact yb1 | exact xb1) (by simp); have yb2 := hC2.cell (p := ⟨w.heap.size + 1, 2, none⟩) (by first | exact yb2 | exact xb2) (by simp); have yb3 := hC2.cell (p := ⟨w.heap.size + 1, 3, none⟩) (by first | exact yb3 | exact xb3) (by simp); have HCC := Lib.hid (Chg.trans (S := []) (a := w) (by first | exact HCC.out | exact HCa.out.same) hC2); clear hC2)
     | (go_at_call 38; (with_reducible refine (HPB.out _).mono ?_); rintro e w2 ⟨rfl, hC2⟩; have ya0 := hC2.cell (p := ⟨w.heap.size, 0, none⟩) (by first | exact ya0 | exact xa0) (by simp); have ya1 := hC2.cell (p := ⟨w.heap.size, 1, none⟩) (by first | exact ya1 | exact xa1) (by simp); have ya2 := hC2.cell (p := ⟨w.heap.size, 2, none⟩) (by first | exact ya2 | exact xa2) (by simp); have ya3 := hC2.cell (p := ⟨w.heap.size, 3, none⟩) (by first | exact ya3 | exact xa3) (by simp); have yb0 := hC2.cell (p := ⟨w.heap.size + 1, 0, none⟩) (by first | exact yb0 | exact xb0) (by simp); have yb1 := hC2.cell (p := ⟨w.heap.size + 1, 1, none⟩) (by first | exact yb1 | exact xb1) (by simp); have yb2 := hC2.cell (p := ⟨w.heap.size + 1, 2, none⟩) (by first | exact yb2 | exact xb2) (by simp); have yb3 := hC2.cell (p := ⟨w.heap.size + 1, 3, none⟩) (by first | exact yb3 | exact xb3) (by simp); have HCC := Lib.hid (Chg.trans (S := []) (a := w) (by first | exact HCC.out | exact HCa.out.same) hC2); clear hC2))
  clear HG0 HG1
  go_wp2_with fail
  go_region_held3 (fun w' => w'.cell? ⟨w.heap.size, 0, none⟩ = some (.int .u8 ka) ∧ w'.cell? ⟨w.heap.size, 1, none⟩ = some (.int .i64 ia) ∧ w'.cell? ⟨w.heap.size, 2, none⟩ = some (.string sa) ∧ w'.cell? ⟨w.heap.size, 3, none⟩ = some (.bool ba) ∧ w'.cell? ⟨w.heap.size + 1, 0, none⟩ = some (.int .u8 kb) ∧ w'.cell? ⟨w.heap.size + 1, 1, none⟩ = some (.int .i64 ib) ∧ w'.cell? ⟨w.heap.size + 1, 2, none⟩ = some (.string sb) ∧ w'.cell? ⟨w.heap.size + 1, 3, none⟩ = some (.bool bb)) (first | with_reducible exact ⟨ya0, ya1, ya2, ya3, yb0, yb1, yb2, yb3⟩ | with_reducible exact ⟨za0, za1, za2, za3, zb0, zb1, zb2, zb3⟩ | go_keep)
    (first
     | (go_at_call 38; (with_reducible refine (HPA.out _).mono ?_); rintro e w2 ⟨rfl, hC2⟩; have za0 := hC2.cell (p := ⟨w.heap.size, 0, none⟩) (by first | exact za0 | exact ya0) (by simp); have za1 := hC2.cell (p := ⟨w.heap.size, 1, none⟩) (by first | exact za1 | exact ya1) (by simp); have za2 := hC2.cell (p := ⟨w.heap.size, 2, none⟩) (by first | exact za2 | exact ya2) (by simp); have za3 := hC2.cell (p := ⟨w.heap.size, 3, none⟩) (by first | exact za3 | exact ya3) (by simp); have zb0 := hC2.cell (p := ⟨w.heap.size + 1, 0, none⟩) (by first | exact zb0 | exact yb0) (by simp); have zb1 := hC2.cell (p := ⟨w.heap.size + 1, 1, none⟩) (by first | exact zb1 | exact yb1) (by simp); have zb2 := hC2.cell (p := ⟨w.heap.size + 1, 2, none⟩) (by first | exact zb2 | exact yb2) (by simp); have zb3 := hC2.cell (p := ⟨w.heap.size + 1, 3, none⟩) (by first | exact zb3 | exact yb3) (by simp); have HCD := Lib.hid (Chg.trans (S := []) (a := w) (by first | exact HCD.out | exact HCC.out.same) hC2); clear hC2)
     | (go_at_call 38; (with_reducible refine (HPB.out _).mono ?_); rintro e w2 ⟨rfl, hC2⟩; have za0 := hC2.cell (p := ⟨w.heap.size, 0, none⟩) (by first | exact za0 | exact ya0) (by simp); have za1 := hC2.cell (p := ⟨w.heap.size, 1, none⟩) (by first | exact za1 | exact ya1) (by simp); have za2 := hC2.cell (p := ⟨w.heap.size, 2, none⟩) (by first | exact za2 | exact ya2) (by simp); have za3 := hC2.cell (p := ⟨w.heap.size, 3, none⟩) (by first | exact za3 | exact ya3) (by simp); have zb0 := hC2.cell (p := ⟨w.heap.size + 1, 0, none⟩) (by first | exact zb0 | exact yb0) (by simp); have zb1 := hC2.cell (p := ⟨w.heap.size + 1, 1, none⟩) (by first | exact zb1 | exact yb1) (by simp); have zb2 := hC2.cell (p := ⟨w.heap.size + 1, 2, none⟩) (by first | exact zb2 | exact yb2) (by simp); have zb3 := hC2.cell (p := ⟨w.heap.size + 1, 3, none⟩) (by first | exact zb3 | exact yb3) (by simp); have HCD := Lib.hid (Chg.trans (S := []) (a := w) (by first | exact HCD.out | exact HCC.out.same) hC2); clear hC2))
  go_wp2_with fail
  go_ret
  exact ⟨by simp, HCD.out⟩
set_option maxRecDepth 100000 in
set_option maxHeartbeats 4000000 in
theorem rless_same (a b : Vl) (w : World) (he : placeV a = placeV b) : Calls Try.prog 33 #[a.val, b.val] w fun e w' => e = .returned (.bool (lessV a b)) ∧ Chg [] w w' := by
  have h1 := place_same he
  have h2 : (placeV a != placeV b) = false := by simpa using he
  have HPA := Lib.hid (fun w => place_any a w)
  have HPB := Lib.hid (fun w => place_any b w)
  obtain ⟨pa, hpa⟩ : ∃ p, p = placeV a := ⟨_, rfl⟩
  obtain ⟨pb, hpb⟩ : ∃ p, p = placeV b := ⟨_, rfl⟩
  obtain ⟨c, hc⟩ : ∃ c, c = lessV a b := ⟨_, rfl⟩
  rw [← hpa, ← hpb] at h2
  rw [← hpa] at HPA
  rw [← hpb] at HPB
  rw [← hc] at h1 ⊢
  have H1 := Lib.hid h1
  clear hpa hpb hc h1 he
  obtain ⟨ka, ia, sa, ba⟩ := a
  obtain ⟨kb, ib, sb, bb⟩ := b
  unfold Vl.val at *
  go_enter Try.func33, Try.ntmps33
  go_wp2_with fail
  generalize hwa : World.alloc _ _ = wa
  have HG0 : Hid (wa.heap[w.heap.size]? = some (.cells #[.int .u8 ka, .int .i64 ia, .string sa, .bool ba] 39 (0, 0))) := Lib.hid (by rw [← hwa]; exact (Below.heap_alloc _ _ _ (by simp)).trans (heap_alloc_new w _))
  have HG1 : Hid (wa.heap[w.heap.size + 1]? = some (.cells #[.int .u8 kb, .int .i64 ib, .string sb, .bool bb] 39 (0, 0))) := Lib.hid (by rw [← hwa]; exact heap_alloc2_new w _ _)
  have HCa : Hid (Chg [] w wa) := Lib.hid (by rw [← hwa]; exact ((Chg.refl [] w).alloc _).alloc _)
  clear hwa
  have xa0 := (four HG0.out).1
  have xa1 := (four HG0.out).2.1
  have xa2 := (four HG0.out).2.2.1
  have xa3 := (four HG0.out).2.2.2
  have xb0 := (four HG1.out).1
  have xb1 := (four HG1.out).2.1
  have xb2 := (four HG1.out).2.2.1
  have xb3 := (four HG1.out).2.2.2
  go_region_held3 (fun w' => w'.cell? ⟨w.heap.size, 0, none⟩ = some (.int .u8 ka) ∧ w'.cell? ⟨w.heap.size, 1, none⟩ = some (.int .i64 ia) ∧ w'.cell? ⟨w.heap.size, 2, none⟩ = some (.string sa) ∧ w'.cell? ⟨w.heap.size, 3, none⟩ = some (.bool ba) ∧ w'.cell? ⟨w.heap.size + 1, 0, none⟩ = some (.int .u8 kb) ∧ w'.cell? ⟨w.heap.size + 1, 1, none⟩ = some (.int .i64 ib) ∧ w'.cell? ⟨w.heap.size + 1, 2, none⟩ = some (.string sb) ∧ w'.cell? ⟨w.heap.size + 1, 3, none⟩ = some (.bool bb)) (first | with_reducible exact ⟨xa0, xa1, xa2, xa3, xb0, xb1, xb2, xb3⟩ | with_reducible exact ⟨ya0, ya1, ya2, ya3, yb0, yb1, yb2, yb3⟩ | go_keep)
    (first
     | (go_at_call 38; (with_reducible refine (HPA.out _).mono ?_); rintro e w2 ⟨rfl, hC2⟩; have ya0 := hC2.cell (p := ⟨w.heap.size, 0, none⟩) (by first | exact ya0 | exact xa0) (by simp); have ya1 := hC2.cell (p := ⟨w.heap.size, 1, none⟩) (by first | exact ya1 | exact xa1) (by simp); have ya2 := hC2.cell (p := ⟨w.heap.size, 2, none⟩) (by first | exact ya2 | exact xa2) (by simp); have ya3 := hC2.cell (p := ⟨w.heap.size, 3, none⟩) (by first | exact ya3 | exact xa3) (by simp); have yb0 := hC2.cell (p := ⟨w.heap.size + 1, 0, none⟩) (by first | exact yb0 | exact xb0) (by simp); have yb1 := hC2.cell (p := ⟨w.heap.size + 1, 1, none⟩) (by first | exact yb1 | exact xb1) (by simp); have yb2 := hC2.cell (p := ⟨w.heap.size + 1, 2, none⟩) (by first | exact yb2 | exact xb2) (by simp); have yb3 := hC2.cell (p := ⟨w.heap.size + 1, 3, none⟩) (by first | exact yb3 | exact xb3) (by simp); have HCC := Lib.hid (Chg.trans (S := []) (a := w) (by first | exact HCC.out | exact HCa.out.same) hC2); clear hC2)
     | (go_at_call 38; (with_reducible refine (HPB.out _).mono ?_); rintro e w2 ⟨rfl, hC2⟩; have ya0 := hC2.cell (p := ⟨w.heap.size, 0, none⟩) (by first | exact ya0 | exact xa0) (by simp); have ya1 := hC2.cell (p := ⟨w.heap.size, 1, none⟩) (by first | exact ya1 | exact xa1) (by simp); have ya2 := hC2.cell (p := ⟨w.heap.size, 2, none⟩) (by first | exact ya2 | exact xa2) (by simp); have ya3 := hC2.cell (p := ⟨w.heap.size, 3, none⟩) (by first | exact ya3 | exact xa3) (by simp); have yb0 := hC2.cell (p := ⟨w.heap.size + 1, 0, none⟩) (by first | exact yb0 | exact xb0) (by simp); have yb1 := hC2.cell (p := ⟨w.heap.size + 1, 1, none⟩) (by first | exact yb1 | exact xb1) (by simp); have yb2 := hC2.cell (p := ⟨w.heap.size + 1, 2, none⟩) (by first | exact yb2 | exact xb2) (by simp); have yb3 := hC2.cell (p := ⟨w.heap.size + 1, 3, none⟩) (by first | exact yb3 | exact xb3) (by simp); have HCC := Lib.hid (Chg.trans (S := []) (a := w) (by first | exact HCC.out | exact HCa.out.same) hC2); clear hC2))
  clear HG0 HG1
  have HC5 : Hid (Chg [] w w2) := HCC
  by_cases k1 : ka = 1
  · subst k1
    have h5 : decide (ia < ib) = c := by have := H1.out; simpa using this.symm
    cases c with
    | true =>
      go_wp2_with fail
      go_ret
      exact ⟨by simp, HC5.out⟩
    | false =>
      go_wp2_with fail
      go_ret
      exact ⟨by simp, HC5.out⟩
  · have e1 : ((ka : Int) == 1) = false := by simp; omega
    by_cases k2 : ka = 2
    · subst k2
      have h5 : Op.bytesLess sa.toList sb.toList = c := by have := H1.out; simpa using this.symm
      go_wp2_with fail
      go_ret
      exact ⟨by simp, HC5.out⟩
    · have e2 : ((ka : Int) == 2) = false := by simp; omega
      have h5 : c = false := by have := H1.out; simpa [k1, k2] using this
      subst h5
      go_wp2_with fail
      go_ret
      exact ⟨by simp, HC5.out⟩
theorem rless_any (a b : Vl) (w : World) : Calls Try.prog 33 #[a.val, b.val] w fun e w' => e = .returned (.bool (lessV a b)) ∧ Chg [] w w' := by
  by_cases h : placeV a = placeV b
  · exact rless_same a b w h
  · exact rless_diff a b w h

set_option maxRecDepth 100000 in
set_option maxHeartbeats 1000000 in
theorem rsame_any (a b : Vl) (w : World) : Calls Try.prog 32 #[a.val, b.val] w fun e w' => e = .returned (.bool (sameV a b)) ∧ Chg [] w w' := by
  have HAB := Lib.hid (fun w => rless_any a b w)
  have HBA := Lib.hid (fun w => rless_any b a w)
  have hs : sameV a b = (!lessV a b && !lessV b a) := rfl
  obtain ⟨c, hc⟩ : ∃ c, c = lessV a b := ⟨_, rfl⟩
  obtain ⟨d, hd⟩ : ∃ d, d = lessV b a := ⟨_, rfl⟩
  rw [hs, ← hc, ← hd]
  rw [← hc] at HAB
  rw [← hd] at HBA
  clear hs hc hd
  obtain ⟨ka, ia, sa, ba⟩ := a
  obtain ⟨kb, ib, sb, bb⟩ := b
  unfold Vl.val at *
  cases c with
  | true =>
    go_enter Try.func32, Try.ntmps32
    go_wp2_with fail
    refine (HAB.out _).mono ?_
    rintro e w1 ⟨rfl, hC1⟩
    have HC1 := Lib.hid hC1
    clear hC1
    go_wp2_with fail
    go_ret
    exact ⟨by simp, (((Chg.refl [] w).alloc _).alloc _).trans HC1.out⟩
  | false =>
    go_enter Try.func32, Try.ntmps32
    go_wp2_with fail
    refine (HAB.out _).mono ?_
    rintro e w1 ⟨rfl, hC1⟩
    have a0 := hC1.cell (p := ⟨w.heap.size, 0, none⟩) (u := .int .u8 ka) (by go_simp) (by simp)
    have a1 := hC1.cell (p := ⟨w.heap.size, 1, none⟩) (u := .int .i64 ia) (by go_simp) (by simp)
    have a2 := hC1.cell (p := ⟨w.heap.size, 2, none⟩) (u := .string sa) (by go_simp) (by simp)
    have a3 := hC1.cell (p := ⟨w.heap.size, 3, none⟩) (u := .bool ba) (by go_simp) (by simp)
    have b0 := hC1.cell (p := ⟨w.heap.size + 1, 0, none⟩) (u := .int .u8 kb) (by go_simp) (by simp)
    have b1 := hC1.cell (p := ⟨w.heap.size + 1, 1, none⟩) (u := .int .i64 ib) (by go_simp) (by simp)
    have b2 := hC1.cell (p := ⟨w.heap.size + 1, 2, none⟩) (u := .string sb) (by go_simp) (by simp)
    have b3 := hC1.cell (p := ⟨w.heap.size + 1, 3, none⟩) (u := .bool bb) (by go_simp) (by simp)
    have HC1 := Lib.hid hC1
    clear hC1
    go_wp2_with fail
    refine (HBA.out _).mono ?_
    rintro e w2 ⟨rfl, hC2⟩
    have HC2 := Lib.hid hC2
    clear hC2
    go_wp2_with fail
    go_ret
    exact ⟨by simp, ((((Chg.refl [] w).alloc _).alloc _).trans HC1.out).trans HC2.out⟩
end Go.Proofs.Ytkdhhafoohnlnaa
