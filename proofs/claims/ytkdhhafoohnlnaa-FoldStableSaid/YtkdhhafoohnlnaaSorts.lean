/-
  The walk of the statement FoldSorts.
-/
import Derived.Test.YtkdhhafoohnlnaaStb
import Derived.Test.YtkdhhafoohnlnaaSrt6
import Derived.Test.YtkdhhafoohnlnaaOrders
namespace Go.Proofs.Ytkdhhafoohnlnaa
open Go.RowKit

set_option maxRecDepth 100000 in
set_option maxHeartbeats 8000000 in
theorem foldSorts {w : World} {vL vD : Value} {L : List (List Vl)} {d : List Bool} {z : Int} (hL : KeysAt w vL L) (hz0 : 0 ≤ z) (hz1 : z ≤ 255) (hD : BoolAt w vD d) : Calls Try.prog 4 #[vL, .int .u8 z, vD] w fun e w' => e = .returned (.bool true) ∧ Chg [] w w' := by
  have AW := Lib.hid awake9
  obtain ⟨m, hm⟩ : ∃ m : Nat, (m : Int) = z % 4 := ⟨(z % 4).toNat, by omega⟩
  have hm4 : m ≤ 4 := by omega
  have F := Lib.hid (fun (w0 : World) (hC : Chg [] w w0) => few10 (n := m) (hL.chg hC) hm4)
  have hK0 := fewK_len m L
  have hK1 : (fewK m L).length ≤ 1000 := by omega
  have hK2 : ∀ r, r ∈ fewK m L → r.length ≤ 1000 := fun r hr => by rw [fewK_even m L r hr]; omega
  have hE := fewK_even m L
  obtain ⟨K, hK⟩ : ∃ K, K = fewK m L := ⟨_, rfl⟩
  rw [← hK] at F hK0 hK1 hK2 hE
  rw [hm] at F
  obtain ⟨n, hn⟩ : ∃ n, n = K.length := ⟨_, rfl⟩
  rw [← hn] at F hK0 hK1
  have S := Lib.hid (fun (w0 : World) (v : Value) (h : KeysAt w0 v K) (hC : Chg [] w w0) => (sort_any (stable_all (by rw [← hn]; exact hK0)) h (hD.chg hC) (by rw [← hn]; exact hK1) hK2 hE).mono (R' := fun e w' => ∃ A c l, e = .returned (.slice A n c) ∧ NatsAt w' (.slice A n c) l ∧ l.Perm (List.range K.length) ∧ l.Pairwise (TT K d) ∧ Chg [] w0 w') (fun e w' h => by obtain ⟨A, c, l, h1, h2, h3, h4, h5, _⟩ := h; rw [← hn] at h1 h2; exact ⟨A, c, l, h1, h2, h3, h4, h5⟩))
  have R := Lib.hid (fun (w0 : World) (v : Value) (h : KeysAt w0 v K) (hC : Chg [] w w0) => (rsort_any h (hD.chg hC) (by rw [← hn]; exact hK1) hK2 hE).mono (R' := fun e w' => ∃ A c l, e = .returned (.slice A n c) ∧ NatsAt w' (.slice A n c) l ∧ l.Perm (List.range K.length) ∧ l.Pairwise (TT K d) ∧ Chg [] w0 w') (fun e w' h => by obtain ⟨A, c, l, h1, h2, h3, h4, h5, _⟩ := h; rw [← hn] at h1 h2; exact ⟨A, c, l, h1, h2, h3, h4, h5⟩))
  have U := Lib.hid (fun (l l' : List Nat) (h1 : l.Perm (List.range K.length)) (h2 : l.Pairwise (TT K d)) (h3 : l'.Perm (List.range K.length)) (h4 : l'.Pairwise (TT K d)) => sorted_unique (fun i j => TT.asymm) (h1.trans h3.symm) h2 h4)
  have SR := Lib.hid (fun (w0 : World) (v v' : Value) (h : KeysAt w0 v K) (h' : KeysAt w0 v' K) => samerows_self v v' K w0 h h' (by rw [← hn]; exact hK1) hK2)
  obtain ⟨AL, cL, ll, rfl⟩ : ∃ A c ll, vL = .slice A ll c := by obtain ⟨A, c, _, h, _⟩ := hL; exact ⟨A, c, _, h⟩
  obtain ⟨AD, cD, ld, rfl⟩ : ∃ A c ld, vD = .slice A ld c := by obtain ⟨A, c, h, _⟩ := hD; exact ⟨A, c, _, h⟩
  have HD := Lib.hid hD
  have HN := Lib.hid hn
  have HK2 := Lib.hid hK2
  have HNL : Hid (∀ l : List Nat, l.Perm (List.range K.length) → l.length ≤ 100000) := Lib.hid (fun l h => by rw [h.length_eq, List.length_range, ← hn]; omega)
  clear hL hD hK hK2 hE hm hm4 hn
  go_enter Try.func4, Try.ntmps4
  go_wp2_with (first
    | (go_at_call 9; (with_reducible refine (AW.out _).mono ?_); rintro e w1 ⟨rfl, hC1⟩; have HC1 := Lib.hid hC1; clear hC1)
    | (go_at_call 10; (with_reducible refine (F.out _ HC1.out).mono ?_); rintro e w2 ⟨A2, c2, rfl, hk2, hC2⟩; have HKA := Lib.hid hk2; have HC2 := Lib.hid (HC1.out.trans hC2); clear hk2 hC2 HC1)
    | (go_at_call 10; (with_reducible refine (F.out _ HC2.out).mono ?_); rintro e w3 ⟨A3, c3, rfl, hk3, hC3⟩; have HKB := Lib.hid hk3; have HKA' := Lib.hid (HKA.out.chg hC3); have HC3 := Lib.hid (HC2.out.trans hC3); clear hk3 hC3 HC2 HKA)
    | (go_at_call 14; (with_reducible refine (S.out _ _ HKB.out HC3.out).mono ?_); rintro e w4 ⟨A4, c4, l4, rfl, hn4, hp4, hs4, hC4⟩; have HN4 := Lib.hid hn4; have HP4 := Lib.hid hp4; have HS4 := Lib.hid hs4; have HKA4 := Lib.hid (HKA'.out.chg hC4); have HKB4 := Lib.hid (HKB.out.chg hC4); have HC4 := Lib.hid (HC3.out.trans hC4); clear hn4 hp4 hs4 hC4 HC3 HKA' HKB)
    | (go_at_call 15; (with_reducible refine (R.out _ _ HKA4.out HC4.out).mono ?_); rintro e w5 ⟨A5, c5, l5, rfl, hn5, hp5, hs5, hC5⟩; have hll : l4 = l5 := U.out l4 l5 HP4.out HS4.out hp5 hs5; have HS13 := Lib.hid (same13 (HN4.out.chg hC5 (by simp)) hn5 (HNL.out l4 HP4.out)); rw [decide_eq_true hll] at HS13; have HKA5 := Lib.hid (HKA4.out.chg hC5); have HKB5 := Lib.hid (HKB4.out.chg hC5); have HC5 := Lib.hid (HC4.out.trans hC5); clear hn5 hp5 hs5 hC5 hll HC4 HKA4 HKB4)
    | (go_at_call 13; (with_reducible refine HS13.out.mono ?_); rintro e w6 ⟨rfl, hC6⟩; have HKA6 := Lib.hid (HKA5.out.chg hC6); have HKB6 := Lib.hid (HKB5.out.chg hC6); have HC6 := Lib.hid (HC5.out.trans hC6); clear hC6 HC5 HKA5 HKB5)
    | (go_at_call 16; (with_reducible refine (SR.out _ _ _ HKA6.out HKB6.out).mono ?_); rintro e w7 ⟨rfl, hC7⟩; have HKA7 := Lib.hid (HKA6.out.chg hC7); have HC7 := Lib.hid (HC6.out.trans hC7); clear hC7 HC6 HKA6 HKB6))
  have HB := Lib.hid (fun (j : Nat) (hj : j < n) => HKA7.out.at_ (j := j) (by rw [← HN.out]; exact hj))
  have HDD := Lib.hid (HD.out.chg HC7.out)
  go_loopw [38] (fun i wr => ∃ j : Nat, i = .int .i64 j ∧ j ≤ n ∧ Chg [] w7 wr) (fun i _ => n - (intOf i).toNat)
  case atStart => exact ⟨0, rfl, by omega, Chg.refl [] w7⟩
  case round =>
    obtain ⟨j, rfl, hj, hC⟩ := hrel
    have HCA := Lib.hid hC
    clear hC
    by_cases hlt : j < n
    · obtain ⟨b, off, A3', c3', r0, hA2, hr0, x0, row0⟩ := HB.out 0 (by omega)
      subst hA2
      obtain ⟨b', off', A4', c4', rj, hA3, hrj, xj, rowj⟩ := HB.out j hlt
      injection hA3 with hA3
      injection hA3 with hA3 hA4
      subst hA3 hA4
      have hl0 := HK2.out r0 (List.mem_of_getElem? hr0)
      rw [Nat.add_zero] at x0
      have y0 := HCA.out.cell x0 (by simp)
      have yj := HCA.out.cell xj (by simp)
      have C1 := Lib.hid (fun (w0 : World) (hC : Chg [] w7 w0) => fless_any _ _ _ r0 rj d w0 (row0.chg hC) (rowj.chg hC) (HDD.out.chg hC) hl0)
      have C2 := Lib.hid (fun (w0 : World) (hC : Chg [] w7 w0) => rLess_any _ _ _ r0 rj d w0 (row0.chg hC) (rowj.chg hC) (HDD.out.chg hC) hl0)
      obtain ⟨s, hs⟩ : ∃ s, s = lessK r0 rj d := ⟨_, rfl⟩
      rw [← hs] at C1 C2
      obtain ⟨m0, hm0⟩ : ∃ m, m = r0.length := ⟨_, rfl⟩
      obtain ⟨mj, hmj⟩ : ∃ m, m = rj.length := ⟨_, rfl⟩
      rw [← hm0] at C1 C2 x0 y0
      rw [← hmj] at C1 C2 xj yj
      have hji : (j : Int) < (n : Int) := by omega
      have hni : (0 : Int) < (n : Int) := by omega
      have hn0 : 0 < n := by omega
      clear x0 xj row0 rowj hr0 hrj hl0 hs hm0 hmj
      go_wp2_with fail
      go_region_held3 (fun w' => w'.cell? ⟨b, off, none⟩ = some (.slice A3' m0 c3') ∧ w'.cell? ⟨b, off + j, none⟩ = some (.slice A4' mj c4')) (first | with_reducible exact ⟨y0, yj⟩ | with_reducible exact ⟨z0, zj⟩ | with_reducible exact ⟨t0, tj⟩ | go_keep)
        (first
         | (go_at_call 17; (with_reducible refine (C1.out _ (by first | exact HCA.out.drew | exact HCA.out.same)).mono ?_); rintro e w8 ⟨rfl, hC8⟩; have z0 := hC8.cell (p := ⟨b, off, none⟩) (by exact y0) (by simp); have zj := hC8.cell (p := ⟨b, off + j, none⟩) (by exact yj) (by simp); have HC8 := Lib.hid (Chg.trans (S := []) (a := w7) (by first | exact HCA.out.drew | exact HCA.out.same) hC8); clear hC8)
         | (go_at_call 18; (with_reducible refine (C2.out _ (by first | exact HC8.out | exact HC8.out.drew | exact HC8.out.same)).mono ?_); rintro e w9 ⟨rfl, hC9⟩; have t0 := hC9.cell (p := ⟨b, off, none⟩) (by exact z0) (by simp); have tj := hC9.cell (p := ⟨b, off + j, none⟩) (by exact zj) (by simp); have HC9 := Lib.hid (Chg.trans (S := []) (a := w7) (by first | exact HC8.out | exact HC8.out.drew | exact HC8.out.same) hC9); clear hC9))
      cases s with
      | true =>
        go_wp2_with fail
        go_roundw
        case measure => simp [intOf]; omega
        case rel => exact ⟨j + 1, by go_num, by omega, HC9.out⟩
      | false =>
        go_wp2_with fail
        go_roundw
        case measure => simp [intOf]; omega
        case rel => exact ⟨j + 1, by go_num, by omega, HC9.out⟩
    · go_wp2_with fail
      go_ret
      exact ⟨rfl, HC7.out.trans HCA.out⟩
end Go.Proofs.Ytkdhhafoohnlnaa
