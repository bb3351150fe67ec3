/-
  The walk of the statement FoldGroups.
-/
import Derived.Test.YtkdhhafoohnlnaaAwk3
namespace Go.Proofs.Ytkdhhafoohnlnaa
open Go.RowKit

theorem grp_ref (K : List (List Vl)) : grpN K K.length = refN K K.length := grp_eq K K.length

set_option maxRecDepth 100000 in
set_option maxHeartbeats 8000000 in
theorem foldGroups {w : World} {vL : Value} {L : List (List Vl)} {n : Int} (hL : KeysAt w vL L) (hn0 : 0 ≤ n) (hn1 : n ≤ 255) : Calls Try.prog 3 #[vL, .int .u8 n] w fun e w' => e = .returned (.bool true) ∧ Chg [] w w' := by
  have A := Lib.hid awake9
  obtain ⟨m, hm⟩ : ∃ m : Nat, (m : Int) = n % 4 := ⟨(n % 4).toNat, by omega⟩
  have hm4 : m ≤ 4 := by omega
  have F := Lib.hid (fun (w0 : World) (hC : Chg [] w w0) => few10 (n := m) (hL.chg hC) hm4)
  have hK1 : (fewK m L).length ≤ 1000 := by have := fewK_len m L; omega
  have hK2 : ∀ r, r ∈ fewK m L → r.length ≤ 1000 := fun r hr => by rw [fewK_even m L r hr]; omega
  obtain ⟨K, hK⟩ : ∃ K, K = fewK m L := ⟨_, rfl⟩
  rw [← hK] at F hK1 hK2
  rw [hm] at F
  have hgr := grp_ref K
  obtain ⟨out, hout⟩ : ∃ out, out = grpN K K.length := ⟨_, rfl⟩
  have hg1 := grpN_le K K.length
  rw [← hout] at hg1 hgr
  obtain ⟨k, hk⟩ : ∃ k, k = out.length := ⟨_, rfl⟩
  have G := Lib.hid (fun (w0 : World) (v : Value) (h : KeysAt w0 v K) => (groups_any h hK1 hK2).mono (R' := fun e w' => ∃ A c vs, e = .returned (.slice A k c) ∧ GAt w' (.slice A k c) out vs ∧ Chg [] w0 w') (fun e w' h => by rw [hk]; rw [← hout] at h; exact h))
  have R := Lib.hid (fun (w0 : World) (v : Value) (h : KeysAt w0 v K) => (rgroups_any h hK1 hK2).mono (R' := fun e w' => ∃ A c vs, e = .returned (.slice A k c) ∧ GAt w' (.slice A k c) out vs ∧ Chg [] w0 w') (fun e w' h => by rw [hk]; rw [← hgr] at h; exact h))
  obtain ⟨AL, cL, ll, rfl⟩ : ∃ A c ll, vL = .slice A ll c := by obtain ⟨A, c, _, h, _⟩ := hL; exact ⟨A, c, _, h⟩
  have HG1 := Lib.hid hg1
  have HK := Lib.hid hk
  have HKL := Lib.hid hK1
  have hkK : k ≤ 1000 := by omega
  clear hL hK hK1 hK2 hgr hout hg1 hk hm hm4
  go_enter Try.func3, Try.ntmps3
  go_wp2_with (first
    | (go_at_call 9; (with_reducible refine (A.out _).mono ?_); rintro e w1 ⟨rfl, hC1⟩; have HC1 := Lib.hid hC1; clear hC1)
    | (go_at_call 10; (with_reducible refine (F.out _ HC1.out).mono ?_); rintro e w2 ⟨A2, c2, rfl, hk2, hC2⟩; have HK2 := Lib.hid hk2; have HC2 := Lib.hid (HC1.out.trans hC2); clear hk2 hC2)
    | (go_at_call 11; (with_reducible refine (G.out _ _ HK2.out).mono ?_); rintro e w3 ⟨A3, c3, vs3, rfl, hg3, hC3⟩; have HG3 := Lib.hid hg3; have HC3 := Lib.hid hC3; clear hg3 hC3)
    | (go_at_call 12; (with_reducible refine (R.out _ _ (HK2.out.chg HC3.out)).mono ?_); rintro e w4 ⟨A4, c4, vs4, rfl, hg4, hC4⟩; have HG4 := Lib.hid hg4; have HG3' := Lib.hid (HG3.out.chg hC4); have HC4 := Lib.hid (HC2.out.trans (HC3.out.trans hC4)); clear hg4 hC4))
  go_loopw [27] (fun i wr => ∃ j : Nat, i = .int .i64 j ∧ j ≤ k ∧ Chg [] w4 wr) (fun i _ => k - (intOf i).toNat)
  case atStart => exact ⟨0, rfl, by omega, Chg.refl [] w4⟩
  case round =>
    obtain ⟨j, rfl, hj, hC⟩ := hrel
    have HC := Lib.hid hC
    clear hC
    by_cases hlt : j < k
    · have hji : (j : Int) < (k : Int) := by omega
      obtain ⟨l, hl⟩ : ∃ l, out[j]? = some l := ⟨_, List.getElem?_eq_getElem (by rw [← HK.out]; exact hlt)⟩
      obtain ⟨u3, hu3⟩ : ∃ u, vs3[j]? = some u := ⟨_, List.getElem?_eq_getElem (by rw [HG3'.out.len, ← HK.out]; exact hlt)⟩
      obtain ⟨u4, hu4⟩ : ∃ u, vs4[j]? = some u := ⟨_, List.getElem?_eq_getElem (by rw [HG4.out.len, ← HK.out]; exact hlt)⟩
      obtain ⟨g3, k3, e3, x3⟩ := HG3'.out.cell hu3
      obtain ⟨g4, k4, e4, x4⟩ := HG4.out.cell hu4
      have n3 := HG3'.out.inn j l u3 hl hu3
      have n4 := HG4.out.inn j l u4 hl hu4
      obtain ⟨B3, d3, rfl⟩ := n3.form'
      obtain ⟨B4, d4, rfl⟩ := n4.form'
      have hll : l.length ≤ 100000 := by have := (HG1.out.2 l (List.mem_of_getElem? hl)).1; have := HKL.out; omega
      injection e3 with e31 e32 e33
      injection e4 with e41 e42 e43
      subst e31 e33 e41 e43
      have S := Lib.hid (fun (w0 : World) (hC : Chg [] wr w0) => same13 ((n3.chg HC.out (by simp)).chg hC (by simp)) ((n4.chg HC.out (by simp)).chg hC (by simp)) hll)
      simp only [decide_true] at S
      obtain ⟨ll, hll2⟩ : ∃ ll, ll = l.length := ⟨_, rfl⟩
      rw [← hll2] at S x3 x4
      have y3 := HC.out.cell x3 (by simp)
      have y4 := HC.out.cell x4 (by simp)
      clear hl hu3 hu4 x3 x4 n3 n4 hll e32 e42 hll2
      go_wp2_with fail
      go_region_held3 (fun w' => w'.cell? ⟨g3, j, none⟩ = some (.slice B3 ll d3) ∧ w'.cell? ⟨g4, j, none⟩ = some (.slice B4 ll d4)) (first | with_reducible exact ⟨y3, y4⟩ | with_reducible exact ⟨z3, z4⟩ | go_keep)
        (first
         | (go_at_call 13; (with_reducible refine (S.out _ (by first | exact (Chg.refl [] _).drew | exact (Chg.refl [] _).same)).mono ?_); rintro e w5 ⟨rfl, hC5⟩; have z3 := hC5.cell (p := ⟨g3, j, none⟩) (by exact y3) (by simp); have z4 := hC5.cell (p := ⟨g4, j, none⟩) (by exact y4) (by simp); have HC5 := Lib.hid (Chg.trans (S := []) (a := wr) (by first | exact (Chg.refl [] wr).drew | exact (Chg.refl [] wr).same) hC5); clear hC5))
      go_wp2_with fail
      go_roundw
      case measure => simp [intOf]; omega
      case rel => exact ⟨j + 1, by go_num, by omega, HC.out.trans HC5.out⟩
    · go_wp2_with fail
      go_ret
      exact ⟨rfl, HC4.out.trans HC.out⟩
end Go.Proofs.Ytkdhhafoohnlnaa
