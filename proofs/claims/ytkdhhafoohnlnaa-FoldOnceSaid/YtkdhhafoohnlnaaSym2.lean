/-
  The walk of rotateCmpFunc.
-/
import Derived.Test.YtkdhhafoohnlnaaSym1
namespace Go.Proofs.Ytkdhhafoohnlnaa
open Go.RowKit

set_option maxRecDepth 100000 in
set_option maxHeartbeats 8000000 in
theorem rot47 {w wr : World} {g n cap a m b bk bd : Nat} {A U V Z : List Nat} (hS : SS w g n cap (A ++ U ++ V ++ Z) wr) (ha : a = A.length) (hm : m = A.length + U.length) (hb : b = A.length + U.length + V.length) (hU : 0 < U.length) (hV : 0 < V.length) (hn : n ≤ 1000) :
    Calls Try.prog 47 #[.slice (some ⟨g, 0, none⟩) n cap, .int .i64 a, .int .i64 m, .int .i64 b, cloV bk bd] wr fun e w' => e = .returned (.tuple #[]) ∧ SS w g n cap (A ++ V ++ U ++ Z) w' := by
  have hlen := hS.len
  simp only [List.length_append] at hlen
  obtain ⟨T, hT⟩ : ∃ T, T = A ++ V ++ U ++ Z := ⟨_, rfl⟩
  rw [← hT]
  have HT := Lib.hid hT
  have HS := Lib.hid hS
  obtain ⟨i0, hi0⟩ : ∃ i, i = U.length := ⟨_, rfl⟩
  obtain ⟨j0, hj0⟩ : ∃ j, j = V.length := ⟨_, rfl⟩
  have hmn : m ≤ n := by omega
  have hbn : b ≤ n := by omega
  have hmi : (m : Int) - (a : Int) = (i0 : Int) := by omega
  have hbj : (b : Int) - (m : Int) = (j0 : Int) := by omega
  have HM := Lib.hid (show A.length + i0 = m by omega)
  have HI0 := Lib.hid hi0
  have HJ0 := Lib.hid hj0
  have HUU := Lib.hid hU
  have HVV := Lib.hid hV
  have hi01 : i0 ≤ 1000 := by omega
  have hj01 : j0 ≤ 1000 := by omega
  clear hT hS hlen ha hb hm hU hV hi0 hj0
  go_enter Try.func47, Try.ntmps47
  go_wp2_with fail
  go_loopw [10, 11] (fun x y wx => ∃ (i j : Nat) (A U V Z : List Nat), x = .int .i64 i ∧ y = .int .i64 j ∧ i = U.length ∧ j = V.length ∧ A.length + i = m ∧ 0 < i ∧ 0 < j ∧ m + j ≤ n ∧ A ++ V ++ U ++ Z = T ∧ SS w g n cap (A ++ U ++ V ++ Z) wx) (fun x y _ => (intOf x).toNat + (intOf y).toNat)
  case atStart => exact ⟨i0, j0, A, U, V, Z, rfl, rfl, HI0.out, HJ0.out, HM.out, by rw [HI0.out]; exact HUU.out, by rw [HJ0.out]; exact HVV.out, by omega, HT.out.symm, HS.out⟩
  case round =>
    obtain ⟨i, j, A, U, V, Z, rfl, rfl, hi, hj, hm, hi0, hj0, hmj, hT, hS⟩ := hrel
    clear HT HS HUU HVV HI0 HJ0 HM hmi hbj hi01 hj01
    have HI := Lib.hid hi
    have HJ := Lib.hid hj
    have HT := Lib.hid hT
    have HS := Lib.hid hS
    obtain ⟨a1, ha1⟩ : ∃ a, a = m - i := ⟨_, rfl⟩
    have e1 : (m : Int) - (i : Int) = (a1 : Int) := by omega
    have hA1 : a1 = A.length := by omega
    have HA1 := Lib.hid hA1
    have HMI := Lib.hid hm
    clear hi hj hT hS ha1 hA1 hm
    rcases Nat.lt_trichotomy i j with hlt | heq | hgt
    · obtain ⟨V1, V2, hV, h1, h2⟩ : ∃ V1 V2, V = V1 ++ V2 ∧ V1.length = j - i ∧ V2.length = i := ⟨V.take (j - i), V.drop (j - i), (List.take_append_drop _ _).symm, by rw [List.length_take, ← HJ.out]; omega, by rw [List.length_drop, ← HJ.out]; omega⟩
      have hS := HS.out
      have hT := HT.out
      rw [hV] at hS hT
      obtain ⟨b1, hb1⟩ : ∃ b, b = m + j - i := ⟨_, rfl⟩
      have I := Lib.hid (fun (w0 : World) (hC : Chg [] wr w0) => swap51 (k := i) (a := a1) (b := b1) (bk := bk) (bd := bd) (W := V1) (SS.still (by rw [show A ++ U ++ V1 ++ V2 ++ Z = A ++ U ++ (V1 ++ V2) ++ Z by simp]; exact hS) hC) HA1.out HI.out.symm h2 (by have := HMI.out; rw [← HI.out, h1]; omega) hn)
      have e2 : (m : Int) + (j : Int) - (i : Int) = (b1 : Int) := by omega
      have e2' : IntKind.i64.wrap (b1 : Int) = (b1 : Int) := IntWalk.i64_in _ (by omega)
      have hne : ¬ (i : Int) = (j : Int) := by omega
      have hng : ¬ (j : Int) < (i : Int) := by omega
      have HE := Lib.hid (show A ++ (V1) ++ V2 ++ (U ++ Z) = T by rw [← hT]; simp)
      have H1 := Lib.hid h1
      have H2 := Lib.hid h2
      clear hS hT hb1 h1 h2 hV
      go_wp2_with (first | (go_at_call 51; (with_reducible refine (I.out _ (Chg.refl [] wr)).mono ?_); rintro e w1 ⟨rfl, h⟩; have HR := Lib.hid h; clear h))
      go_roundw
      case measure => simp [intOf]; omega
      case rel =>
        refine ⟨i, j - i, A, V2, V1, U ++ Z, rfl, by go_num, H2.out.symm, H1.out.symm, HMI.out, hi0, by omega, by omega, HE.out, ?_⟩
        have := HR.out
        rw [show A ++ V2 ++ V1 ++ U ++ Z = A ++ V2 ++ V1 ++ (U ++ Z) by simp] at this
        exact this
    · subst heq
      have hS := HS.out
      have I := Lib.hid (fun (w0 : World) (hC : Chg [] wr w0) => swap51 (k := i) (a := a1) (b := m) (bk := bk) (bd := bd) (A := A) (U := U) (V := V) (Z := Z) (W := []) (SS.still (by rw [List.append_nil]; exact hS) hC) HA1.out HI.out.symm HJ.out.symm (by have := HMI.out; rw [← HI.out]; simp; omega) hn)
      have HE := Lib.hid (show A ++ V ++ [] ++ U ++ Z = T by rw [← HT.out]; simp)
      clear hS
      go_wp2_with (first | (go_at_call 51; (with_reducible refine (I.out _ (Chg.refl [] wr)).mono ?_); rintro e w1 ⟨rfl, h⟩; have HR := Lib.hid h; clear h))
      go_end0
      have := HR.out
      rw [HE.out] at this
      exact ⟨rfl, this⟩
    · obtain ⟨U1, U2, hU, h1, h2⟩ : ∃ U1 U2, U = U1 ++ U2 ∧ U1.length = j ∧ U2.length = i - j := ⟨U.take j, U.drop j, (List.take_append_drop _ _).symm, by rw [List.length_take, ← HI.out]; omega, by rw [List.length_drop, ← HI.out]⟩
      have hS := HS.out
      have hT := HT.out
      rw [hU] at hS hT
      have I := Lib.hid (fun (w0 : World) (hC : Chg [] wr w0) => swap51 (k := j) (a := a1) (b := m) (bk := bk) (bd := bd) (U := U1) (W := U2) (SS.still (by rw [show A ++ U1 ++ U2 ++ V ++ Z = A ++ (U1 ++ U2) ++ V ++ Z by simp]; exact hS) hC) HA1.out h1 HJ.out.symm (by have := HMI.out; rw [h1, h2]; omega) hn)
      have hne : ¬ (i : Int) = (j : Int) := by omega
      have hng : (j : Int) < (i : Int) := by omega
      have HE := Lib.hid (show (A ++ V) ++ U1 ++ U2 ++ Z = T by rw [← hT]; simp)
      have H1 := Lib.hid h1
      have H2 := Lib.hid h2
      clear hS hT h1 h2 hU
      go_wp2_with (first | (go_at_call 51; (with_reducible refine (I.out _ (Chg.refl [] wr)).mono ?_); rintro e w1 ⟨rfl, h⟩; have HR := Lib.hid h; clear h))
      go_roundw
      case measure => simp [intOf]; omega
      case rel =>
        refine ⟨i - j, j, A ++ V, U2, U1, Z, by go_num, rfl, H2.out.symm, H1.out.symm, by simp only [List.length_append]; rw [← HJ.out]; have := HMI.out; omega, by omega, hj0, hmj, HE.out, HR.out⟩
end Go.Proofs.Ytkdhhafoohnlnaa
