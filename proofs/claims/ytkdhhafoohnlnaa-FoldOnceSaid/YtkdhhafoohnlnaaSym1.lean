/-
  The walk of swapRangeCmpFunc.
-/
import Derived.Test.YtkdhhafoohnlnaaSrt2
import Derived.Test.YtkdhhafoohnlnaaSymP
namespace Go.Proofs.Ytkdhhafoohnlnaa
open Go.RowKit

set_option maxRecDepth 100000 in
set_option maxHeartbeats 8000000 in
theorem swap51 {w wr : World} {g n cap a b k bk bd : Nat} {A U W V Z : List Nat} (hS : SS w g n cap (A ++ U ++ W ++ V ++ Z) wr) (ha : a = A.length) (hU : U.length = k) (hV : V.length = k) (hb : b = A.length + U.length + W.length) (hn : n ≤ 1000) :
    Calls Try.prog 51 #[.slice (some ⟨g, 0, none⟩) n cap, .int .i64 a, .int .i64 b, .int .i64 k, cloV bk bd] wr fun e w' => e = .returned (.tuple #[]) ∧ SS w g n cap (A ++ V ++ W ++ U ++ Z) w' := by
  have hlen := hS.len
  simp only [List.length_append] at hlen
  rw [← swS_zero] at hS
  have hbk : b + k ≤ n := by omega
  have hab : a + k ≤ b := by omega
  have HS := Lib.hid hS
  have HA := Lib.hid ha
  have HU := Lib.hid hU
  have HV := Lib.hid hV
  have HB := Lib.hid hb
  clear hS ha hU hV hb hlen
  go_enter Try.func51, Try.ntmps51
  go_wp2_with fail
  go_loopw [10] (fun i wx => ∃ t : Nat, i = .int .i64 t ∧ t ≤ k ∧ SS w g n cap (swS A U W V Z t) wx) (fun i _ => k - (intOf i).toNat)
  case atStart => exact ⟨0, rfl, by omega, HS.out⟩
  case round =>
    obtain ⟨t, rfl, ht, hS⟩ := hrel
    have HT := Lib.hid hS
    clear hS HS
    by_cases hlt : t < k
    · obtain ⟨u, v, hu, hv, hst⟩ := swS_step (A := A) (W := W) (Z := Z) (i := t) (by rw [HU.out]; exact hlt) (HU.out.trans HV.out.symm)
      rw [← HB.out] at hv hst
      rw [← HA.out] at hu hst
      obtain ⟨p, hp⟩ : ∃ p, p = a + t := ⟨_, rfl⟩
      obtain ⟨q, hq⟩ : ∃ q, q = b + t := ⟨_, rfl⟩
      rw [← hp] at hu hst
      rw [← hq] at hv hst
      obtain ⟨c1, f1⟩ := HT.out.cell hu
      obtain ⟨c2, f2⟩ := HT.out.cell hv
      have s1 : (a : Int) + (t : Int) = (p : Int) := by omega
      have s2 : (b : Int) + (t : Int) = (q : Int) := by omega
      have t1 : IntKind.i64.wrap (p : Int) = (p : Int) := IntWalk.i64_in _ (by omega)
      have t2 : IntKind.i64.wrap (q : Int) = (q : Int) := IntWalk.i64_in _ (by omega)
      have hpn : p < n := by omega
      have hqn : q < n := by omega
      have hpi : (p : Int) < (n : Int) := by omega
      have hqi : (q : Int) < (n : Int) := by omega
      have hti : (t : Int) < (k : Int) := by omega
      have HST := Lib.hid hst
      clear hu hv hst hp hq
      go_wp2_with fail
      go_region
      go_wp2_with fail
      go_roundw
      case measure => simp [intOf]; omega
      case rel => exact ⟨t + 1, by go_num, by omega, by rw [← HST.out]; exact (HT.out.swap hpn hqn v u).still ((Chg.refl [] _).drew)⟩
    · have hte : t = k := by omega
      subst hte
      have hfin := HT.out
      rw [swS_done HU.out HV.out] at hfin
      have HF := Lib.hid hfin
      clear hfin
      go_wp2_with fail
      go_end0
      exact ⟨rfl, HF.out⟩
end Go.Proofs.Ytkdhhafoohnlnaa
