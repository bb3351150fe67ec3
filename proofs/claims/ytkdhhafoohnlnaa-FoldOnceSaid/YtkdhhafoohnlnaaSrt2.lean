/-
  The walk of insertionSortCmpFunc.
-/
import Derived.Test.YtkdhhafoohnlnaaSrt1
import Derived.Test.YtkdhhafoohnlnaaSrtP
import Derived.RegionTactic
import Derived.ChangeAlike
namespace Go.Proofs.Ytkdhhafoohnlnaa
open Go.RowKit

theorem SS.swap {w wr : World} {g n cap : Nat} {xs : List Nat} (h : SS w g n cap xs wr) {i j : Nat} (hi : i < n) (hj : j < n) (x y : Nat) : SS w g n cap ((xs.set i x).set j y) ((wr.setCell ⟨g, i, none⟩ (.int .i64 x)).setCell ⟨g, j, none⟩ (.int .i64 y)) :=
  (h.set hi x).set hj y

set_option maxRecDepth 100000 in
set_option maxHeartbeats 8000000 in
theorem ins39 {w wr : World} {g n cap a b bk bd c : Nat} {K : List (List Vl)} {d : List Bool} {A S Z : List Nat} (hcl : Clo w bk bd K d) (he : Even K c) (hS : SS w g n cap (A ++ S ++ Z) wr) (hin : ∀ x, x ∈ S → x < K.length) (hinc : S.Pairwise (· < ·)) (ha : a = A.length) (hb : b = A.length + S.length) (hn : n ≤ 1000) :
    Calls Try.prog 39 #[.slice (some ⟨g, 0, none⟩) n cap, .int .i64 a, .int .i64 b, cloV bk bd] wr fun e w' => e = .returned (.tuple #[]) ∧ ∃ p, p.Perm S ∧ p.Pairwise (TT K d) ∧ SS w g n cap (A ++ p ++ Z) w' := by
  have hbn : b ≤ n := by have := hS.len; simp at this; omega
  have han : a ≤ n := by omega
  have hI := Ins.start (K := K) (d := d) A S Z
  have HCL := Lib.hid hcl
  have HE := Lib.hid he
  have HS := Lib.hid hS
  have HIN := Lib.hid hin
  have HINC := Lib.hid hinc
  have HA := Lib.hid ha
  have HB := Lib.hid hb
  have HI := Lib.hid hI
  clear hcl he hS hin hinc ha hb hI
  go_enter Try.func39, Try.ntmps39
  go_wp2_with fail
  go_loopw [8] (fun i wx => ∃ (t k : Nat) (xs : List Nat), i = .int .i64 t ∧ t = a + k ∧ 1 ≤ k ∧ t ≤ n + 1 ∧ SS w g n cap xs wx ∧ Ins K d A S Z k xs) (fun i _ => n + 2 - (intOf i).toNat)
  case atStart => exact ⟨a + 1, 1, _, by go_num, rfl, by omega, by omega, HS.out, HI.out⟩
  case round =>
    obtain ⟨t, k, xs, rfl, hta, hk1, htn, hSx, hIx⟩ := hrel
    have HTA := Lib.hid hta
    have HSX := Lib.hid hSx
    have HIX := Lib.hid hIx
    clear hta hSx hIx HS HI
    by_cases htb : t < b
    · obtain ⟨p, e, hpl, hSk, hD, hek, hpm, hfin⟩ := HIX.out.next HE.out (by have := HTA.out; have := HA.out; have := HB.out; omega) HINC.out HIN.out
      have HFIN := Lib.hid hfin
      have HPM := Lib.hid hpm
      have HD := Lib.hid hD
      have HEK := Lib.hid hek
      have hti : (t : Int) < (b : Int) := by omega
      have HTB := Lib.hid htb
      clear hfin hpm hD hek hpl hSk
      go_wp2_with fail
      go_loopw [9] (fun i wx => ∃ (j : Nat) (ys : List Nat), i = .int .i64 j ∧ a ≤ j ∧ j ≤ t ∧ SS w g n cap ys wx ∧ Dn K d A p (S.drop (k + 1) ++ Z) e j ys) (fun i _ => (intOf i).toNat)
      case atStart => exact ⟨t, xs, rfl, by have := HTA.out; omega, by omega, HSX.out, by rw [show t = A.length + k by rw [HTA.out, HA.out]]; exact HD.out⟩
      case round =>
        obtain ⟨j, ys, rfl, haj, hjt, hSy, hDy⟩ := hrel
        by_cases hja : a < j
        · obtain ⟨x, hje, hjx, hxp, hdown⟩ := hDy.get (by rw [← HA.out]; exact hja)
          obtain ⟨j1, hj1⟩ : ∃ j1, j1 = j - 1 := ⟨_, rfl⟩
          rw [← hj1] at hjx hdown
          obtain ⟨c1, f1⟩ := hSy.cell hje
          obtain ⟨c2, f2⟩ := hSy.cell hjx
          have hxk := HPM.out x hxp
          have hcr := TT.cross (K := K) (d := d) hxk.2
          have HCALL := Lib.hid (fun (w0 : World) (hC : Chg [] _ w0) => HCL.out w0 ((hSy.still hC).bel) e x HEK.out hxk.1)
          have hlt := cmpB_lt K d e x
          obtain ⟨q, hq⟩ : ∃ q, q = cmpB K d e x := ⟨_, rfl⟩
          obtain ⟨l, hl⟩ : ∃ l, l = ltI K d e x := ⟨_, rfl⟩
          rw [← hq] at HCALL hlt
          rw [← hl] at hlt hcr
          have hbn' : j < n := by omega
          have hji : (j : Int) < (n : Int) := by omega
          have hai : (a : Int) < (j : Int) := by omega
          have hj1i : (j1 : Int) < (n : Int) := by omega
          have t2 : (j : Int) - 1 = (j1 : Int) := by omega
          have t3 : IntKind.i64.wrap (j1 : Int) = (j1 : Int) := IntWalk.i64_in _ (by omega)
          have t4 : (0 : Int) ≤ (j1 : Int) := by omega
          have HSY := Lib.hid hSy
          have HDY := Lib.hid hDy
          have HDN := Lib.hid hdown
          have HCR := Lib.hid hcr
          have HJX := Lib.hid hjx
          have HJJ := Lib.hid hj1
          have HJE := Lib.hid hje
          clear hSy hDy hdown hcr hq hl hjx hje hxk hxp hj1
          cases l with
          | false =>
            go_wp2_with fail
            go_region_held3 (fun w' => w'.cell? ⟨g, j, none⟩ = some (.int .i64 e) ∧ w'.cell? ⟨g, j1, none⟩ = some (.int .i64 x)) (first | with_reducible exact ⟨c1, c2⟩ | with_reducible exact ⟨y1, y2⟩ | go_keep)
              (first
               | (go_at_call 28; (with_reducible refine (HCALL.out _ (by first | exact (Chg.refl [] _).drew | exact (Chg.refl [] _).same)).mono ?_); rintro ee w2 ⟨rfl, hC2⟩; have y1 := hC2.cell (p := ⟨g, j, none⟩) (by exact c1) (by simp); have y2 := hC2.cell (p := ⟨g, j1, none⟩) (by exact c2) (by simp); have HC2 := Lib.hid hC2; clear hC2))
            go_wp2_with fail
            go_roundw
            case measure => simp [intOf]; omega
            case rel => exact ⟨t + 1, k + 1, ys, by go_num, by rw [HTA.out]; omega, by omega, by have := HTB.out; omega, HSY.out.still (Chg.trans (Chg.refl [] _).drew HC2.out), HFIN.out j ys HDY.out (.inr ⟨x, by rw [← HJJ.out]; exact HJX.out, by have := HA.out; omega, HCR.out.2 (by first | rfl | trivial)⟩)⟩
          | true =>
            go_wp2_with fail
            go_region_held3 (fun w' => w'.cell? ⟨g, j, none⟩ = some (.int .i64 e) ∧ w'.cell? ⟨g, j1, none⟩ = some (.int .i64 x)) (first | with_reducible exact ⟨c1, c2⟩ | with_reducible exact ⟨y1, y2⟩ | go_keep)
              (first
               | (go_at_call 28; (with_reducible refine (HCALL.out _ (by first | exact (Chg.refl [] _).drew | exact (Chg.refl [] _).same)).mono ?_); rintro ee w2 ⟨rfl, hC2⟩; have y1 := hC2.cell (p := ⟨g, j, none⟩) (by exact c1) (by simp); have y2 := hC2.cell (p := ⟨g, j1, none⟩) (by exact c2) (by simp); have HC2 := Lib.hid hC2; clear hC2))
            have HSZ := Lib.hid (HSY.out.still ((Chg.refl [] _).drew.trans HC2.out))
            obtain ⟨_, z1⟩ := HSZ.out.cell (i := j) (x := e) HJE.out
            obtain ⟨_, z2⟩ := HSZ.out.cell (i := j1) (x := x) HJX.out
            go_wp2_with fail
            go_region
            go_wp2_with fail
            go_roundw
            case measure => simp [intOf]; omega
            case rel => exact ⟨j1, _, rfl, by omega, by omega, (HSZ.out.swap (by omega) (by omega) x e).still ((Chg.refl [] _).drew), HDN.out (HCR.out.1.2 (by first | rfl | trivial))⟩
        · have hje : j = a := by omega
          have HSY := Lib.hid hSy
          have HDY := Lib.hid hDy
          have hnaj : ¬ (a : Int) < (j : Int) := by omega
          have HJE := Lib.hid hje
          clear hSy hDy hje
          go_wp2_with fail
          go_quiet (fail)
          go_wp2_with fail
          go_roundw
          case measure => simp [intOf]; omega
          case rel => exact ⟨t + 1, k + 1, ys, by go_num, by rw [HTA.out]; omega, by omega, by have := HTB.out; omega, HSY.out.still ((Chg.refl [] _).drewN _), HFIN.out j ys HDY.out (.inl (by rw [HJE.out]; exact HA.out))⟩
    · have hdone := HIX.out.done (by have := HTA.out; have := HA.out; have := HB.out; omega)
      have HDONE := Lib.hid hdone
      have hti : ¬ (t : Int) < (b : Int) := by omega
      clear hdone
      go_wp2_with fail
      go_end0
      obtain ⟨p, h1, h2, h3⟩ := HDONE.out
      exact ⟨rfl, p, h1, h2, by rw [← List.append_assoc, ← h3]; exact HSX.out⟩
end Go.Proofs.Ytkdhhafoohnlnaa
