/-
  The walk of symMergeCmpFunc, both stretches of two or more; the merges of the halves as a hypothesis. Printed by mk_sym5.py.
-/
import Derived.Test.YtkdhhafoohnlnaaSym4
import Derived.Test.YtkdhhafoohnlnaaSymS
namespace Go.Proofs.Ytkdhhafoohnlnaa
open Go.RowKit

/-- What the merge of at most N does. -/
def SymOK (N : Nat) : Prop :=
  ∀ {w wr : World} {g n cap a m b bk bd c : Nat} {K : List (List Vl)} {d : List Bool} {A L R Z : List Nat}, Clo w bk bd K d → Even K c → SS w g n cap (A ++ L ++ R ++ Z) wr → Two K d L R → 0 < L.length → 0 < R.length → L.length + R.length ≤ N → a = A.length → m = A.length + L.length → b = A.length + L.length + R.length → n ≤ 1000 →
    Calls Try.prog 40 #[.slice (some ⟨g, 0, none⟩) n cap, .int .i64 a, .int .i64 m, .int .i64 b, cloV bk bd] wr fun e w' => e = .returned (.tuple #[]) ∧ ∃ p, p.Perm (L ++ R) ∧ p.Pairwise (TT K d) ∧ SS w g n cap (A ++ p ++ Z) w'

set_option maxRecDepth 100000 in
set_option maxHeartbeats 8000000 in
theorem sym40_genA {N : Nat} (hIH : SymOK N) {w wr : World} {g n cap a m b mid bk bd c : Nat} {K : List (List Vl)} {d : List Bool} {A L R Z : List Nat} (hcl : Clo w bk bd K d) (he : Even K c) (hS : SS w g n cap (A ++ L ++ R ++ Z) wr) (h2 : Two K d L R) (hL2 : 2 ≤ L.length) (hR2 : 2 ≤ R.length) (hN : L.length + R.length ≤ N + 1) (ha : a = A.length) (hm : m = A.length + L.length) (hb : b = A.length + L.length + R.length) (hn : n ≤ 1000) (hmid : mid = (a + b) / 2) (hcase : mid < m) :
    Calls Try.prog 40 #[.slice (some ⟨g, 0, none⟩) n cap, .int .i64 a, .int .i64 m, .int .i64 b, cloV bk bd] wr fun e w' => e = .returned (.tuple #[]) ∧ ∃ p, p.Perm (L ++ R) ∧ p.Pairwise (TT K d) ∧ SS w g n cap (A ++ p ++ Z) w' := by
  have hlen := hS.len
  simp only [List.length_append] at hlen
  have hM := h2.mrg (Z := Z) (a := a) (m := m) (b := b) ha hm hb
  obtain ⟨xs, hxs⟩ : ∃ xs, xs = A ++ L ++ R ++ Z := ⟨_, rfl⟩
  rw [← hxs] at hM
  have hS1 := hS
  rw [← hxs] at hS1
  obtain ⟨s0, hs0⟩ : ∃ s, s = mid + m - b := ⟨_, rfl⟩
  obtain ⟨r0, hr0⟩ : ∃ r, r = mid := ⟨_, rfl⟩
  have hr3 : Range3 a m b mid s0 r0 := by unfold Range3; omega
  obtain ⟨q1, q2, q3, q4, q5, q6, q7⟩ := hr3.facts hmid (by omega) (by omega)
  have hmono := hM.mono3 he q1 q3 q7
  obtain ⟨n1, hn1⟩ : ∃ k, k = mid + m := ⟨_, rfl⟩
  obtain ⟨p, hp⟩ : ∃ k, k = mid + m - 1 := ⟨_, rfl⟩
  rw [← hp] at q7 hmono
  obtain ⟨ml, hml⟩ : ∃ ml, ml = m - a := ⟨_, rfl⟩
  obtain ⟨bl, hbl⟩ : ∃ bl, bl = b - m := ⟨_, rfl⟩
  have hma : (m : Int) - (a : Int) = (ml : Int) := by omega
  have hml1 : ¬ (ml : Int) = 1 := by omega
  have hml2 : ((ml : Int) == 1) = false := by simpa using hml1
  have hbm : (b : Int) - (m : Int) = (bl : Int) := by omega
  have hbl1 : ¬ (bl : Int) = 1 := by omega
  have hbl2 : ((bl : Int) == 1) = false := by simpa using hbl1
  have hmidi : ((a : Int) + (b : Int)) / 2 = (mid : Int) := by omega
  have hn1i : (mid : Int) + (m : Int) = (n1 : Int) := by omega
  have hpi : (n1 : Int) - 1 = (p : Int) := by omega
  have hs0i : (n1 : Int) - (b : Int) = (s0 : Int) ∨ s0 = a := by omega
  have hbn : b ≤ n := by omega
  have hmb : m < b := by omega
  have ham : a < m := by omega
  have hp1 : p < 2000 := by omega
  have hmidn : mid < n := by omega
  have HCL := Lib.hid hcl
  have HE := Lib.hid he
  have HIH := @Lib.hid (SymOK N) hIH
  have HM := Lib.hid hM
  have HMONO := Lib.hid hmono
  have HS := Lib.hid hS1
  have H2 := Lib.hid h2
  have HNN := Lib.hid hN
  have HA := Lib.hid ha
  have HMM := Lib.hid hm
  have HB := Lib.hid hb
  have HXS := Lib.hid hxs
  have HLEN := Lib.hid (show xs.length = n from hS1.len)
  have HR3 := Lib.hid hr3
  have HMID := Lib.hid hmid
  have HQ7 := Lib.hid q7
  have HP := Lib.hid hp
  have HN1 := Lib.hid hn1
  have HL2 := Lib.hid (show a + 2 ≤ m by omega)
  have HR2 := Lib.hid (show m + 2 ≤ b by omega)
  have hgt : (mid : Int) < (m : Int) := by omega
  have hs0j : (n1 : Int) - (b : Int) = (s0 : Int) := by omega
  subst hr0
  clear hcl he hS hS1 h2 hN ha hm hb hlen hM hmono hxs hml hbl hL2 hR2 hr3 hmid q7 hp hn1 hs0 hs0i hIH
  go_enter Try.func40, Try.ntmps40
  go_wp2_with fail
  go_loopw [20, 21] (fun i j wx => ∃ lo hi : Nat, i = .int .i64 lo ∧ j = .int .i64 hi ∧ Srch (fun q => !ltI K d (xAt xs (p - q)) (xAt xs q)) s0 r0 lo hi ∧ SS w g n cap xs wx) (fun i j _ => (intOf j).toNat - (intOf i).toNat)
  case atStart => exact ⟨s0, r0, rfl, rfl, Srch.start q2, HS.out⟩
  case round =>
    obtain ⟨lo, hi, rfl, rfl, hSr, hS⟩ := hrel
    have hsge := hSr.ge
    have hsle := hSr.le
    have hstop := hSr.top
    have HSR := Lib.hid hSr
    have HSS := Lib.hid hS
    clear hSr hS HS
    by_cases hlt : lo < hi
    · obtain ⟨h, hh⟩ : ∃ h, h = (lo + hi) / 2 := ⟨_, rfl⟩
      have hlo : lo ≤ h := by omega
      have hhi : h < hi := by omega
      have hh2 : ((lo : Int) + (hi : Int)) / 2 = (h : Int) := by omega
      have hlti : (lo : Int) < (hi : Int) := by omega
      obtain ⟨k1, k2, k3⟩ := HQ7.out h (by omega) (by omega)
      obtain ⟨pc, hpc⟩ : ∃ pc, pc = p - h := ⟨_, rfl⟩
      rw [← hpc] at k1 k2
      have hpci : (p : Int) - (h : Int) = (pc : Int) := by omega
      have hpcw : IntKind.i64.wrap (pc : Int) = (pc : Int) := IntWalk.i64_in _ (by omega)
      have hpc0 : (0 : Int) ≤ (pc : Int) := by omega
      have hpcn : pc < n := by omega
      have hhn : h < n := by omega
      have hhni : (h : Int) < (n : Int) := by omega
      have hpcni : (pc : Int) < (n : Int) := by omega
      obtain ⟨e, hee⟩ : ∃ e, e = xAt xs h := ⟨_, rfl⟩
      obtain ⟨y, hyy⟩ : ∃ y, y = xAt xs pc := ⟨_, rfl⟩
      obtain ⟨c1, f1⟩ := HSS.out.cell (i := h) (x := e) (by rw [hee]; exact xAt_get (by rw [HLEN.out]; exact hhn))
      obtain ⟨c2, f2⟩ := HSS.out.cell (i := pc) (x := y) (by rw [hyy]; exact xAt_get (by rw [HLEN.out]; exact hpcn))
      have hek : e < K.length := by rw [hee]; exact HM.out.bd h (by omega) (by omega)
      have hyk : y < K.length := by rw [hyy]; exact HM.out.bd pc (by omega) k2
      have HCALL := Lib.hid (fun (w0 : World) (hC : Chg [] _ w0) => HCL.out w0 ((HSS.out.still hC).bel) y e hyk hek)
      have hlt' := cmpB_lt K d y e
      obtain ⟨q, hq⟩ : ∃ q, q = cmpB K d y e := ⟨_, rfl⟩
      obtain ⟨l, hl⟩ : ∃ l, l = ltI K d y e := ⟨_, rfl⟩
      rw [← hq] at HCALL hlt'
      rw [← hl] at hlt'
      have hfl : (!ltI K d (xAt xs (p - h)) (xAt xs h)) = !l := by rw [← hee, ← hpc, ← hyy, hl]
      have HFL := Lib.hid hfl
      have HLO := Lib.hid hlo
      have HHI := Lib.hid hhi
      clear hh hee hyy hek hyk hq hl hfl f1 f2 hlo hhi hpc k1 k2 k3
      cases l with
      | false =>
        have HUP := Lib.hid (HSR.out.up HMONO.out HLO.out HHI.out HFL.out)
        go_wp2_with fail
        go_region_held3 (fun w' => w'.cell? ⟨g, h, none⟩ = some (.int .i64 e) ∧ w'.cell? ⟨g, pc, none⟩ = some (.int .i64 y)) (first | with_reducible exact ⟨c1, c2⟩ | with_reducible exact ⟨y1, y2⟩ | go_keep)
          (first
           | (go_at_call 28; (with_reducible refine (HCALL.out _ (by first | exact (Chg.refl [] _).drew | exact (Chg.refl [] _).same)).mono ?_); rintro ee w2 ⟨rfl, hC2⟩; have y1 := hC2.cell (p := ⟨g, h, none⟩) (by exact c1) (by simp); have y2 := hC2.cell (p := ⟨g, pc, none⟩) (by exact c2) (by simp); have HC2 := Lib.hid hC2; clear hC2))
        go_wp2_with fail
        go_roundw
        case measure => have := HLO.out; have := HHI.out; simp [intOf]; omega
        case rel => exact ⟨h + 1, hi, by go_num, rfl, HUP.out, HSS.out.still ((Chg.refl [] _).drew.trans HC2.out)⟩
      | true =>
        have HDN := Lib.hid (HSR.out.down HMONO.out HLO.out HHI.out HFL.out)
        go_wp2_with fail
        go_region_held3 (fun w' => w'.cell? ⟨g, h, none⟩ = some (.int .i64 e) ∧ w'.cell? ⟨g, pc, none⟩ = some (.int .i64 y)) (first | with_reducible exact ⟨c1, c2⟩ | with_reducible exact ⟨y1, y2⟩ | go_keep)
          (first
           | (go_at_call 28; (with_reducible refine (HCALL.out _ (by first | exact (Chg.refl [] _).drew | exact (Chg.refl [] _).same)).mono ?_); rintro ee w2 ⟨rfl, hC2⟩; have y1 := hC2.cell (p := ⟨g, h, none⟩) (by exact c1) (by simp); have y2 := hC2.cell (p := ⟨g, pc, none⟩) (by exact c2) (by simp); have HC2 := Lib.hid hC2; clear hC2))
        go_wp2_with fail
        go_roundw
        case measure => have := HLO.out; have := HHI.out; simp [intOf]; omega
        case rel => exact ⟨lo, h, rfl, rfl, HDN.out, HSS.out.still ((Chg.refl [] _).drew.trans HC2.out)⟩
    · have hle : lo = hi := by omega
      subst hle
      obtain ⟨ee, hee⟩ : ∃ e, e = n1 - lo := ⟨_, rfl⟩
      obtain ⟨a1, a2, a3, a4, a5, a6, hx⟩ := Mrg.parts HE.out HM.out HL2.out HR2.out HMID.out HR3.out (st := lo) (e := ee) (by have := HSR.out; rw [HP.out] at this; exact this) (by rw [hee, HN1.out])
      have hA := HA.out
      have hMM := HMM.out
      have hB := HB.out
      have hn1' := HN1.out
      obtain ⟨L1, L2, hL, hl1, hl2⟩ : ∃ L1 L2, L = L1 ++ L2 ∧ L1.length = lo - a ∧ L2.length = m - lo := ⟨L.take (lo - a), L.drop (lo - a), (List.take_append_drop _ _).symm, by rw [List.length_take]; omega, by rw [List.length_drop]; omega⟩
      obtain ⟨R1, R2, hR, hr1, hr2⟩ : ∃ R1 R2, R = R1 ++ R2 ∧ R1.length = ee - m ∧ R2.length = b - ee := ⟨R.take (ee - m), R.drop (ee - m), (List.take_append_drop _ _).symm, by rw [List.length_take]; omega, by rw [List.length_drop]; omega⟩
      have h2 := H2.out
      have hmm2 := HMM.out
      have hbb2 := HB.out
      have hxs := HXS.out
      have hnn := HNN.out
      rw [hL] at hmm2
      rw [hL, hR] at h2 hbb2 hxs hnn
      rw [hxs] at hx
      have hcross := cross_lists (A := A) (Z := Z) hA hmm2 hbb2 (st := lo) (e := ee) (by omega) (by omega) hx
      simp only [List.length_append] at hmm2 hbb2 hnn
      have hS0 := HSS.out
      rw [hxs] at hS0
      have I1 := Lib.hid (fun (c1 : 0 < L2.length) (c2 : 0 < R1.length) (wx : World) (h : SS w g n cap (A ++ (L1 ++ L2) ++ (R1 ++ R2) ++ Z) wx) => rot47 (bk := bk) (bd := bd) (A := A ++ L1) (U := L2) (V := R1) (Z := R2 ++ Z) (a := lo) (m := m) (b := ee) (by simpa using h) (by simp only [List.length_append]; omega) (by simp only [List.length_append]; omega) (by simp only [List.length_append]; omega) c1 c2 hn)
      have I2 := Lib.hid (fun (c1 : 0 < L1.length) (c2 : 0 < R1.length) (wx : World) (h : SS w g n cap (A ++ L1 ++ R1 ++ L2 ++ (R2 ++ Z)) wx) => HIH.out (a := a) (m := lo) (b := r0) (A := A) (L := L1) (R := R1) (Z := L2 ++ (R2 ++ Z)) HCL.out HE.out (by simpa using h) h2.left c1 c2 (by omega) hA (by omega) (by omega) hn)
      have I3 := Lib.hid (fun (c1 : 0 < L2.length) (c2 : 0 < R2.length) (p1 : List Nat) (hp1 : p1.length = L1.length + R1.length) (wx : World) (h : SS w g n cap (A ++ p1 ++ L2 ++ (R2 ++ Z)) wx) => HIH.out (a := r0) (m := ee) (b := b) (A := A ++ p1) (L := L2) (R := R2) (Z := Z) HCL.out HE.out (by simpa using h) h2.right c1 c2 (by omega) (by simp only [List.length_append]; omega) (by simp only [List.length_append]; omega) (by simp only [List.length_append]; omega) hn)
      have HFIN := Lib.hid (fun (p1 p2 : List Nat) (h1 : p1.Perm (L1 ++ R1)) (h3 : p2.Perm (L2 ++ R2)) (s1 : p1.Pairwise (TT K d)) (s2 : p2.Pairwise (TT K d)) => assemble h1 h3 s1 s2 hcross)
      have HN1' := Lib.hid (fun (hz : L1.length = 0 ∨ R1.length = 0) => h2.left.one hz)
      have HN2' := Lib.hid (fun (hz : L2.length = 0 ∨ R2.length = 0) => h2.right.one hz)
      have HS0 := Lib.hid hS0
      have HLL := Lib.hid hL
      have HRR := Lib.hid hR
      have heei : (n1 : Int) - (lo : Int) = (ee : Int) := by omega
      by_cases z1 : 0 < L2.length
      · by_cases z2 : 0 < R1.length
        · by_cases z3 : 0 < L1.length
          · by_cases z4 : 0 < R2.length
            · have k1 : ((lo : Int) < (m : Int)) := by omega
              have k2 : ((m : Int) < (ee : Int)) := by omega
              have k3 : ((a : Int) < (lo : Int)) := by omega
              have k4 : ((lo : Int) < (r0 : Int)) := by omega
              have k5 : ((r0 : Int) < (ee : Int)) := by omega
              have k6 : ((ee : Int) < (b : Int)) := by omega
              clear hee a1 a2 a3 a4 a5 a6 hA hMM hB hn1' hL hl1 hl2 hR hr1 hr2 h2 hmm2 hbb2 hxs hnn hx hcross hS0
              go_wp2_with (first | (go_at_call 47; (with_reducible refine (I1.out z1 z2 _ HS0.out).mono ?_); rintro e w5 ⟨rfl, h⟩; have HS5 := Lib.hid (show SS w g n cap (A ++ L1 ++ R1 ++ L2 ++ (R2 ++ Z)) w5 from (by simpa using h)); clear h) | (go_at_call 40; (with_reducible refine (I2.out z3 z2 _ HS5.out).mono ?_); rintro e w6 ⟨rfl, p1, hp1, hs1, h⟩; have HP1 := Lib.hid hp1; have HT1 := Lib.hid hs1; have HS6 := Lib.hid (show SS w g n cap (A ++ p1 ++ L2 ++ (R2 ++ Z)) w6 from (by simpa using h)); clear h hp1 hs1) | (go_at_call 40; (with_reducible refine (I3.out z1 z4 _ (by have := HP1.out.length_eq; simpa using this) _ HS6.out).mono ?_); rintro e w7 ⟨rfl, p2, hp2, hs2, h⟩; have HP2 := Lib.hid hp2; have HT2 := Lib.hid hs2; have HS7 := Lib.hid h; clear h hp2 hs2))
              all_goals
                go_end0
                obtain ⟨f1, f2⟩ := HFIN.out _ _ HP1.out HP2.out HT1.out HT2.out
                exact ⟨rfl, _, by rw [HLL.out, HRR.out]; exact f1, f2, by have := HS7.out; simpa using this⟩
            · have k1 : ((lo : Int) < (m : Int)) := by omega
              have k2 : ((m : Int) < (ee : Int)) := by omega
              have k3 : ((a : Int) < (lo : Int)) := by omega
              have k4 : ((lo : Int) < (r0 : Int)) := by omega
              have k5 : ((r0 : Int) < (ee : Int)) := by omega
              have k6 : ¬ ((ee : Int) < (b : Int)) := by omega
              have HT2 := Lib.hid (HN2'.out (by omega))
              clear hee a1 a2 a3 a4 a5 a6 hA hMM hB hn1' hL hl1 hl2 hR hr1 hr2 h2 hmm2 hbb2 hxs hnn hx hcross hS0
              go_wp2_with (first | (go_at_call 47; (with_reducible refine (I1.out z1 z2 _ HS0.out).mono ?_); rintro e w5 ⟨rfl, h⟩; have HS5 := Lib.hid (show SS w g n cap (A ++ L1 ++ R1 ++ L2 ++ (R2 ++ Z)) w5 from (by simpa using h)); clear h) | (go_at_call 40; (with_reducible refine (I2.out z3 z2 _ HS5.out).mono ?_); rintro e w6 ⟨rfl, p1, hp1, hs1, h⟩; have HP1 := Lib.hid hp1; have HT1 := Lib.hid hs1; have HS6 := Lib.hid (show SS w g n cap (A ++ p1 ++ L2 ++ (R2 ++ Z)) w6 from (by simpa using h)); clear h hp1 hs1))
              all_goals
                go_end0
                obtain ⟨f1, f2⟩ := HFIN.out _ _ HP1.out (List.Perm.refl (L2 ++ R2)) HT1.out HT2.out
                exact ⟨rfl, _, by rw [HLL.out, HRR.out]; exact f1, f2, by have := HS6.out; simpa using this⟩
          · by_cases z4 : 0 < R2.length
            · have k1 : ((lo : Int) < (m : Int)) := by omega
              have k2 : ((m : Int) < (ee : Int)) := by omega
              have k3 : ¬ ((a : Int) < (lo : Int)) := by omega
              have k4 : ((lo : Int) < (r0 : Int)) := by omega
              have k5 : ((r0 : Int) < (ee : Int)) := by omega
              have k6 : ((ee : Int) < (b : Int)) := by omega
              have HP1 := Lib.hid (List.Perm.refl (L1 ++ R1))
              have HT1 := Lib.hid (HN1'.out (by omega))
              clear hee a1 a2 a3 a4 a5 a6 hA hMM hB hn1' hL hl1 hl2 hR hr1 hr2 h2 hmm2 hbb2 hxs hnn hx hcross hS0
              go_wp2_with (first | (go_at_call 47; (with_reducible refine (I1.out z1 z2 _ HS0.out).mono ?_); rintro e w5 ⟨rfl, h⟩; have HS5 := Lib.hid (show SS w g n cap (A ++ L1 ++ R1 ++ L2 ++ (R2 ++ Z)) w5 from (by simpa using h)); have HS6 := Lib.hid (show SS w g n cap (A ++ (L1 ++ R1) ++ L2 ++ (R2 ++ Z)) w5 from (by simpa using h)); clear h) | (go_at_call 40; (with_reducible refine (I3.out z1 z4 _ (by simp) _ HS6.out).mono ?_); rintro e w7 ⟨rfl, p2, hp2, hs2, h⟩; have HP2 := Lib.hid hp2; have HT2 := Lib.hid hs2; have HS7 := Lib.hid h; clear h hp2 hs2))
              all_goals
                go_end0
                obtain ⟨f1, f2⟩ := HFIN.out _ _ HP1.out HP2.out HT1.out HT2.out
                exact ⟨rfl, _, by rw [HLL.out, HRR.out]; exact f1, f2, by have := HS7.out; simpa using this⟩
            · have k1 : ((lo : Int) < (m : Int)) := by omega
              have k2 : ((m : Int) < (ee : Int)) := by omega
              have k3 : ¬ ((a : Int) < (lo : Int)) := by omega
              have k4 : ((lo : Int) < (r0 : Int)) := by omega
              have k5 : ((r0 : Int) < (ee : Int)) := by omega
              have k6 : ¬ ((ee : Int) < (b : Int)) := by omega
              have HP1 := Lib.hid (List.Perm.refl (L1 ++ R1))
              have HT1 := Lib.hid (HN1'.out (by omega))
              have HT2 := Lib.hid (HN2'.out (by omega))
              clear hee a1 a2 a3 a4 a5 a6 hA hMM hB hn1' hL hl1 hl2 hR hr1 hr2 h2 hmm2 hbb2 hxs hnn hx hcross hS0
              go_wp2_with (first | (go_at_call 47; (with_reducible refine (I1.out z1 z2 _ HS0.out).mono ?_); rintro e w5 ⟨rfl, h⟩; have HS5 := Lib.hid (show SS w g n cap (A ++ L1 ++ R1 ++ L2 ++ (R2 ++ Z)) w5 from (by simpa using h)); have HS6 := Lib.hid (show SS w g n cap (A ++ (L1 ++ R1) ++ L2 ++ (R2 ++ Z)) w5 from (by simpa using h)); clear h))
              all_goals
                go_end0
                obtain ⟨f1, f2⟩ := HFIN.out _ _ HP1.out (List.Perm.refl (L2 ++ R2)) HT1.out HT2.out
                exact ⟨rfl, _, by rw [HLL.out, HRR.out]; exact f1, f2, by have := HS6.out; simpa using this⟩
        · by_cases z3 : 0 < L1.length
          · by_cases z4 : 0 < R2.length
            · have k1 : ((lo : Int) < (m : Int)) := by omega
              have k2 : ¬ ((m : Int) < (ee : Int)) := by omega
              have k3 : ((a : Int) < (lo : Int)) := by omega
              have k4 : ¬ ((lo : Int) < (r0 : Int)) := by omega
              have k5 : ((r0 : Int) < (ee : Int)) := by omega
              have k6 : ((ee : Int) < (b : Int)) := by omega
              have HS5 := Lib.hid (show SS w g n cap (A ++ L1 ++ R1 ++ L2 ++ (R2 ++ Z)) wr from by have := HS0.out; rw [List.length_eq_zero_iff.1 (show R1.length = 0 by omega)] at this ⊢; simpa using this)
              have HP1 := Lib.hid (List.Perm.refl (L1 ++ R1))
              have HT1 := Lib.hid (HN1'.out (by omega))
              have HS6 := Lib.hid (show SS w g n cap (A ++ (L1 ++ R1) ++ L2 ++ (R2 ++ Z)) wr from by have := HS5.out; simpa using this)
              clear hee a1 a2 a3 a4 a5 a6 hA hMM hB hn1' hL hl1 hl2 hR hr1 hr2 h2 hmm2 hbb2 hxs hnn hx hcross hS0
              go_wp2_with (first | (go_at_call 40; (with_reducible refine (I3.out z1 z4 _ (by simp) _ HS6.out).mono ?_); rintro e w7 ⟨rfl, p2, hp2, hs2, h⟩; have HP2 := Lib.hid hp2; have HT2 := Lib.hid hs2; have HS7 := Lib.hid h; clear h hp2 hs2))
              all_goals
                go_end0
                obtain ⟨f1, f2⟩ := HFIN.out _ _ HP1.out HP2.out HT1.out HT2.out
                exact ⟨rfl, _, by rw [HLL.out, HRR.out]; exact f1, f2, by have := HS7.out; simpa using this⟩
            · exfalso
              omega
          · by_cases z4 : 0 < R2.length
            · exfalso
              omega
            · exfalso
              omega
      · by_cases z2 : 0 < R1.length
        · by_cases z3 : 0 < L1.length
          · by_cases z4 : 0 < R2.length
            · have k1 : ¬ ((lo : Int) < (m : Int)) := by omega
              have k2 : ((m : Int) < (ee : Int)) := by omega
              have k3 : ((a : Int) < (lo : Int)) := by omega
              have k4 : ((lo : Int) < (r0 : Int)) := by omega
              have k5 : ¬ ((r0 : Int) < (ee : Int)) := by omega
              have k6 : ((ee : Int) < (b : Int)) := by omega
              have HS5 := Lib.hid (show SS w g n cap (A ++ L1 ++ R1 ++ L2 ++ (R2 ++ Z)) wr from by have := HS0.out; rw [List.length_eq_zero_iff.1 (show L2.length = 0 by omega)] at this ⊢; simpa using this)
              have HT2 := Lib.hid (HN2'.out (by omega))
              clear hee a1 a2 a3 a4 a5 a6 hA hMM hB hn1' hL hl1 hl2 hR hr1 hr2 h2 hmm2 hbb2 hxs hnn hx hcross hS0
              go_wp2_with (first | (go_at_call 40; (with_reducible refine (I2.out z3 z2 _ HS5.out).mono ?_); rintro e w6 ⟨rfl, p1, hp1, hs1, h⟩; have HP1 := Lib.hid hp1; have HT1 := Lib.hid hs1; have HS6 := Lib.hid (show SS w g n cap (A ++ p1 ++ L2 ++ (R2 ++ Z)) w6 from (by simpa using h)); clear h hp1 hs1))
              all_goals
                go_end0
                obtain ⟨f1, f2⟩ := HFIN.out _ _ HP1.out (List.Perm.refl (L2 ++ R2)) HT1.out HT2.out
                exact ⟨rfl, _, by rw [HLL.out, HRR.out]; exact f1, f2, by have := HS6.out; simpa using this⟩
            · exfalso
              omega
          · by_cases z4 : 0 < R2.length
            · exfalso
              omega
            · exfalso
              omega
        · by_cases z3 : 0 < L1.length
          · by_cases z4 : 0 < R2.length
            · have k1 : ¬ ((lo : Int) < (m : Int)) := by omega
              have k2 : ¬ ((m : Int) < (ee : Int)) := by omega
              have k3 : ((a : Int) < (lo : Int)) := by omega
              have k4 : ¬ ((lo : Int) < (r0 : Int)) := by omega
              have k5 : ¬ ((r0 : Int) < (ee : Int)) := by omega
              have k6 : ((ee : Int) < (b : Int)) := by omega
              have HS5 := Lib.hid (show SS w g n cap (A ++ L1 ++ R1 ++ L2 ++ (R2 ++ Z)) wr from by have := HS0.out; rw [List.length_eq_zero_iff.1 (show L2.length = 0 by omega)] at this ⊢; simpa using this)
              have HP1 := Lib.hid (List.Perm.refl (L1 ++ R1))
              have HT1 := Lib.hid (HN1'.out (by omega))
              have HS6 := Lib.hid (show SS w g n cap (A ++ (L1 ++ R1) ++ L2 ++ (R2 ++ Z)) wr from by have := HS5.out; simpa using this)
              have HT2 := Lib.hid (HN2'.out (by omega))
              clear hee a1 a2 a3 a4 a5 a6 hA hMM hB hn1' hL hl1 hl2 hR hr1 hr2 h2 hmm2 hbb2 hxs hnn hx hcross hS0
              go_wp2_with fail
              all_goals
                go_end0
                obtain ⟨f1, f2⟩ := HFIN.out _ _ HP1.out (List.Perm.refl (L2 ++ R2)) HT1.out HT2.out
                exact ⟨rfl, _, by rw [HLL.out, HRR.out]; exact f1, f2, by have := HS6.out; simpa using this⟩
            · exfalso
              omega
          · by_cases z4 : 0 < R2.length
            · exfalso
              omega
            · exfalso
              omega
set_option maxRecDepth 100000 in
set_option maxHeartbeats 8000000 in
theorem sym40_genB {N : Nat} (hIH : SymOK N) {w wr : World} {g n cap a m b mid bk bd c : Nat} {K : List (List Vl)} {d : List Bool} {A L R Z : List Nat} (hcl : Clo w bk bd K d) (he : Even K c) (hS : SS w g n cap (A ++ L ++ R ++ Z) wr) (h2 : Two K d L R) (hL2 : 2 ≤ L.length) (hR2 : 2 ≤ R.length) (hN : L.length + R.length ≤ N + 1) (ha : a = A.length) (hm : m = A.length + L.length) (hb : b = A.length + L.length + R.length) (hn : n ≤ 1000) (hmid : mid = (a + b) / 2) (hcase : m ≤ mid) :
    Calls Try.prog 40 #[.slice (some ⟨g, 0, none⟩) n cap, .int .i64 a, .int .i64 m, .int .i64 b, cloV bk bd] wr fun e w' => e = .returned (.tuple #[]) ∧ ∃ p, p.Perm (L ++ R) ∧ p.Pairwise (TT K d) ∧ SS w g n cap (A ++ p ++ Z) w' := by
  have hlen := hS.len
  simp only [List.length_append] at hlen
  have hM := h2.mrg (Z := Z) (a := a) (m := m) (b := b) ha hm hb
  obtain ⟨xs, hxs⟩ : ∃ xs, xs = A ++ L ++ R ++ Z := ⟨_, rfl⟩
  rw [← hxs] at hM
  have hS1 := hS
  rw [← hxs] at hS1
  obtain ⟨s0, hs0⟩ : ∃ s, s = a := ⟨_, rfl⟩
  obtain ⟨r0, hr0⟩ : ∃ r, r = m := ⟨_, rfl⟩
  have hr3 : Range3 a m b mid s0 r0 := by unfold Range3; omega
  obtain ⟨q1, q2, q3, q4, q5, q6, q7⟩ := hr3.facts hmid (by omega) (by omega)
  have hmono := hM.mono3 he q1 q3 q7
  obtain ⟨n1, hn1⟩ : ∃ k, k = mid + m := ⟨_, rfl⟩
  obtain ⟨p, hp⟩ : ∃ k, k = mid + m - 1 := ⟨_, rfl⟩
  rw [← hp] at q7 hmono
  obtain ⟨ml, hml⟩ : ∃ ml, ml = m - a := ⟨_, rfl⟩
  obtain ⟨bl, hbl⟩ : ∃ bl, bl = b - m := ⟨_, rfl⟩
  have hma : (m : Int) - (a : Int) = (ml : Int) := by omega
  have hml1 : ¬ (ml : Int) = 1 := by omega
  have hml2 : ((ml : Int) == 1) = false := by simpa using hml1
  have hbm : (b : Int) - (m : Int) = (bl : Int) := by omega
  have hbl1 : ¬ (bl : Int) = 1 := by omega
  have hbl2 : ((bl : Int) == 1) = false := by simpa using hbl1
  have hmidi : ((a : Int) + (b : Int)) / 2 = (mid : Int) := by omega
  have hn1i : (mid : Int) + (m : Int) = (n1 : Int) := by omega
  have hpi : (n1 : Int) - 1 = (p : Int) := by omega
  have hs0i : (n1 : Int) - (b : Int) = (s0 : Int) ∨ s0 = a := by omega
  have hbn : b ≤ n := by omega
  have hmb : m < b := by omega
  have ham : a < m := by omega
  have hp1 : p < 2000 := by omega
  have hmidn : mid < n := by omega
  have HCL := Lib.hid hcl
  have HE := Lib.hid he
  have HIH := @Lib.hid (SymOK N) hIH
  have HM := Lib.hid hM
  have HMONO := Lib.hid hmono
  have HS := Lib.hid hS1
  have H2 := Lib.hid h2
  have HNN := Lib.hid hN
  have HA := Lib.hid ha
  have HMM := Lib.hid hm
  have HB := Lib.hid hb
  have HXS := Lib.hid hxs
  have HLEN := Lib.hid (show xs.length = n from hS1.len)
  have HR3 := Lib.hid hr3
  have HMID := Lib.hid hmid
  have HQ7 := Lib.hid q7
  have HP := Lib.hid hp
  have HN1 := Lib.hid hn1
  have HL2 := Lib.hid (show a + 2 ≤ m by omega)
  have HR2 := Lib.hid (show m + 2 ≤ b by omega)
  have hgt : ¬ (mid : Int) < (m : Int) := by omega
  have hr0' := hr0.symm
  have hs0' := hs0.symm
  subst hr0'
  subst hs0'
  clear hcl he hS hS1 h2 hN ha hm hb hlen hM hmono hxs hml hbl hL2 hR2 hr3 hmid q7 hp hn1 hs0i hIH
  go_enter Try.func40, Try.ntmps40
  go_wp2_with fail
  go_loopw [20, 21] (fun i j wx => ∃ lo hi : Nat, i = .int .i64 lo ∧ j = .int .i64 hi ∧ Srch (fun q => !ltI K d (xAt xs (p - q)) (xAt xs q)) a m lo hi ∧ SS w g n cap xs wx) (fun i j _ => (intOf j).toNat - (intOf i).toNat)
  case atStart => exact ⟨a, m, rfl, rfl, Srch.start q2, HS.out⟩
  case round =>
    obtain ⟨lo, hi, rfl, rfl, hSr, hS⟩ := hrel
    have hsge := hSr.ge
    have hsle := hSr.le
    have hstop := hSr.top
    have HSR := Lib.hid hSr
    have HSS := Lib.hid hS
    clear hSr hS HS
    by_cases hlt : lo < hi
    · obtain ⟨h, hh⟩ : ∃ h, h = (lo + hi) / 2 := ⟨_, rfl⟩
      have hlo : lo ≤ h := by omega
      have hhi : h < hi := by omega
      have hh2 : ((lo : Int) + (hi : Int)) / 2 = (h : Int) := by omega
      have hlti : (lo : Int) < (hi : Int) := by omega
      obtain ⟨k1, k2, k3⟩ := HQ7.out h (by omega) (by omega)
      obtain ⟨pc, hpc⟩ : ∃ pc, pc = p - h := ⟨_, rfl⟩
      rw [← hpc] at k1 k2
      have hpci : (p : Int) - (h : Int) = (pc : Int) := by omega
      have hpcw : IntKind.i64.wrap (pc : Int) = (pc : Int) := IntWalk.i64_in _ (by omega)
      have hpc0 : (0 : Int) ≤ (pc : Int) := by omega
      have hpcn : pc < n := by omega
      have hhn : h < n := by omega
      have hhni : (h : Int) < (n : Int) := by omega
      have hpcni : (pc : Int) < (n : Int) := by omega
      obtain ⟨e, hee⟩ : ∃ e, e = xAt xs h := ⟨_, rfl⟩
      obtain ⟨y, hyy⟩ : ∃ y, y = xAt xs pc := ⟨_, rfl⟩
      obtain ⟨c1, f1⟩ := HSS.out.cell (i := h) (x := e) (by rw [hee]; exact xAt_get (by rw [HLEN.out]; exact hhn))
      obtain ⟨c2, f2⟩ := HSS.out.cell (i := pc) (x := y) (by rw [hyy]; exact xAt_get (by rw [HLEN.out]; exact hpcn))
      have hek : e < K.length := by rw [hee]; exact HM.out.bd h (by omega) (by omega)
      have hyk : y < K.length := by rw [hyy]; exact HM.out.bd pc (by omega) k2
      have HCALL := Lib.hid (fun (w0 : World) (hC : Chg [] _ w0) => HCL.out w0 ((HSS.out.still hC).bel) y e hyk hek)
      have hlt' := cmpB_lt K d y e
      obtain ⟨q, hq⟩ : ∃ q, q = cmpB K d y e := ⟨_, rfl⟩
      obtain ⟨l, hl⟩ : ∃ l, l = ltI K d y e := ⟨_, rfl⟩
      rw [← hq] at HCALL hlt'
      rw [← hl] at hlt'
      have hfl : (!ltI K d (xAt xs (p - h)) (xAt xs h)) = !l := by rw [← hee, ← hpc, ← hyy, hl]
      have HFL := Lib.hid hfl
      have HLO := Lib.hid hlo
      have HHI := Lib.hid hhi
      clear hh hee hyy hek hyk hq hl hfl f1 f2 hlo hhi hpc k1 k2 k3
      cases l with
      | false =>
        have HUP := Lib.hid (HSR.out.up HMONO.out HLO.out HHI.out HFL.out)
        go_wp2_with fail
        go_region_held3 (fun w' => w'.cell? ⟨g, h, none⟩ = some (.int .i64 e) ∧ w'.cell? ⟨g, pc, none⟩ = some (.int .i64 y)) (first | with_reducible exact ⟨c1, c2⟩ | with_reducible exact ⟨y1, y2⟩ | go_keep)
          (first
           | (go_at_call 28; (with_reducible refine (HCALL.out _ (by first | exact (Chg.refl [] _).drew | exact (Chg.refl [] _).same)).mono ?_); rintro ee w2 ⟨rfl, hC2⟩; have y1 := hC2.cell (p := ⟨g, h, none⟩) (by exact c1) (by simp); have y2 := hC2.cell (p := ⟨g, pc, none⟩) (by exact c2) (by simp); have HC2 := Lib.hid hC2; clear hC2))
        go_wp2_with fail
        go_roundw
        case measure => have := HLO.out; have := HHI.out; simp [intOf]; omega
        case rel => exact ⟨h + 1, hi, by go_num, rfl, HUP.out, HSS.out.still ((Chg.refl [] _).drew.trans HC2.out)⟩
      | true =>
        have HDN := Lib.hid (HSR.out.down HMONO.out HLO.out HHI.out HFL.out)
        go_wp2_with fail
        go_region_held3 (fun w' => w'.cell? ⟨g, h, none⟩ = some (.int .i64 e) ∧ w'.cell? ⟨g, pc, none⟩ = some (.int .i64 y)) (first | with_reducible exact ⟨c1, c2⟩ | with_reducible exact ⟨y1, y2⟩ | go_keep)
          (first
           | (go_at_call 28; (with_reducible refine (HCALL.out _ (by first | exact (Chg.refl [] _).drew | exact (Chg.refl [] _).same)).mono ?_); rintro ee w2 ⟨rfl, hC2⟩; have y1 := hC2.cell (p := ⟨g, h, none⟩) (by exact c1) (by simp); have y2 := hC2.cell (p := ⟨g, pc, none⟩) (by exact c2) (by simp); have HC2 := Lib.hid hC2; clear hC2))
        go_wp2_with fail
        go_roundw
        case measure => have := HLO.out; have := HHI.out; simp [intOf]; omega
        case rel => exact ⟨lo, h, rfl, rfl, HDN.out, HSS.out.still ((Chg.refl [] _).drew.trans HC2.out)⟩
    · have hle : lo = hi := by omega
      subst hle
      obtain ⟨ee, hee⟩ : ∃ e, e = n1 - lo := ⟨_, rfl⟩
      obtain ⟨a1, a2, a3, a4, a5, a6, hx⟩ := Mrg.parts HE.out HM.out HL2.out HR2.out HMID.out HR3.out (st := lo) (e := ee) (by have := HSR.out; rw [HP.out] at this; exact this) (by rw [hee, HN1.out])
      have hA := HA.out
      have hMM := HMM.out
      have hB := HB.out
      have hn1' := HN1.out
      obtain ⟨L1, L2, hL, hl1, hl2⟩ : ∃ L1 L2, L = L1 ++ L2 ∧ L1.length = lo - a ∧ L2.length = m - lo := ⟨L.take (lo - a), L.drop (lo - a), (List.take_append_drop _ _).symm, by rw [List.length_take]; omega, by rw [List.length_drop]; omega⟩
      obtain ⟨R1, R2, hR, hr1, hr2⟩ : ∃ R1 R2, R = R1 ++ R2 ∧ R1.length = ee - m ∧ R2.length = b - ee := ⟨R.take (ee - m), R.drop (ee - m), (List.take_append_drop _ _).symm, by rw [List.length_take]; omega, by rw [List.length_drop]; omega⟩
      have h2 := H2.out
      have hmm2 := HMM.out
      have hbb2 := HB.out
      have hxs := HXS.out
      have hnn := HNN.out
      rw [hL] at hmm2
      rw [hL, hR] at h2 hbb2 hxs hnn
      rw [hxs] at hx
      have hcross := cross_lists (A := A) (Z := Z) hA hmm2 hbb2 (st := lo) (e := ee) (by omega) (by omega) hx
      simp only [List.length_append] at hmm2 hbb2 hnn
      have hS0 := HSS.out
      rw [hxs] at hS0
      have I1 := Lib.hid (fun (c1 : 0 < L2.length) (c2 : 0 < R1.length) (wx : World) (h : SS w g n cap (A ++ (L1 ++ L2) ++ (R1 ++ R2) ++ Z) wx) => rot47 (bk := bk) (bd := bd) (A := A ++ L1) (U := L2) (V := R1) (Z := R2 ++ Z) (a := lo) (m := m) (b := ee) (by simpa using h) (by simp only [List.length_append]; omega) (by simp only [List.length_append]; omega) (by simp only [List.length_append]; omega) c1 c2 hn)
      have I2 := Lib.hid (fun (c1 : 0 < L1.length) (c2 : 0 < R1.length) (wx : World) (h : SS w g n cap (A ++ L1 ++ R1 ++ L2 ++ (R2 ++ Z)) wx) => HIH.out (a := a) (m := lo) (b := mid) (A := A) (L := L1) (R := R1) (Z := L2 ++ (R2 ++ Z)) HCL.out HE.out (by simpa using h) h2.left c1 c2 (by omega) hA (by omega) (by omega) hn)
      have I3 := Lib.hid (fun (c1 : 0 < L2.length) (c2 : 0 < R2.length) (p1 : List Nat) (hp1 : p1.length = L1.length + R1.length) (wx : World) (h : SS w g n cap (A ++ p1 ++ L2 ++ (R2 ++ Z)) wx) => HIH.out (a := mid) (m := ee) (b := b) (A := A ++ p1) (L := L2) (R := R2) (Z := Z) HCL.out HE.out (by simpa using h) h2.right c1 c2 (by omega) (by simp only [List.length_append]; omega) (by simp only [List.length_append]; omega) (by simp only [List.length_append]; omega) hn)
      have HFIN := Lib.hid (fun (p1 p2 : List Nat) (h1 : p1.Perm (L1 ++ R1)) (h3 : p2.Perm (L2 ++ R2)) (s1 : p1.Pairwise (TT K d)) (s2 : p2.Pairwise (TT K d)) => assemble h1 h3 s1 s2 hcross)
      have HN1' := Lib.hid (fun (hz : L1.length = 0 ∨ R1.length = 0) => h2.left.one hz)
      have HN2' := Lib.hid (fun (hz : L2.length = 0 ∨ R2.length = 0) => h2.right.one hz)
      have HS0 := Lib.hid hS0
      have HLL := Lib.hid hL
      have HRR := Lib.hid hR
      have heei : (n1 : Int) - (lo : Int) = (ee : Int) := by omega
      by_cases z1 : 0 < L2.length
      · by_cases z2 : 0 < R1.length
        · by_cases z3 : 0 < L1.length
          · by_cases z4 : 0 < R2.length
            · have k1 : ((lo : Int) < (m : Int)) := by omega
              have k2 : ((m : Int) < (ee : Int)) := by omega
              have k3 : ((a : Int) < (lo : Int)) := by omega
              have k4 : ((lo : Int) < (mid : Int)) := by omega
              have k5 : ((mid : Int) < (ee : Int)) := by omega
              have k6 : ((ee : Int) < (b : Int)) := by omega
              clear hee a1 a2 a3 a4 a5 a6 hA hMM hB hn1' hL hl1 hl2 hR hr1 hr2 h2 hmm2 hbb2 hxs hnn hx hcross hS0
              go_wp2_with (first | (go_at_call 47; (with_reducible refine (I1.out z1 z2 _ HS0.out).mono ?_); rintro e w5 ⟨rfl, h⟩; have HS5 := Lib.hid (show SS w g n cap (A ++ L1 ++ R1 ++ L2 ++ (R2 ++ Z)) w5 from (by simpa using h)); clear h) | (go_at_call 40; (with_reducible refine (I2.out z3 z2 _ HS5.out).mono ?_); rintro e w6 ⟨rfl, p1, hp1, hs1, h⟩; have HP1 := Lib.hid hp1; have HT1 := Lib.hid hs1; have HS6 := Lib.hid (show SS w g n cap (A ++ p1 ++ L2 ++ (R2 ++ Z)) w6 from (by simpa using h)); clear h hp1 hs1) | (go_at_call 40; (with_reducible refine (I3.out z1 z4 _ (by have := HP1.out.length_eq; simpa using this) _ HS6.out).mono ?_); rintro e w7 ⟨rfl, p2, hp2, hs2, h⟩; have HP2 := Lib.hid hp2; have HT2 := Lib.hid hs2; have HS7 := Lib.hid h; clear h hp2 hs2))
              all_goals
                go_end0
                obtain ⟨f1, f2⟩ := HFIN.out _ _ HP1.out HP2.out HT1.out HT2.out
                exact ⟨rfl, _, by rw [HLL.out, HRR.out]; exact f1, f2, by have := HS7.out; simpa using this⟩
            · have k1 : ((lo : Int) < (m : Int)) := by omega
              have k2 : ((m : Int) < (ee : Int)) := by omega
              have k3 : ((a : Int) < (lo : Int)) := by omega
              have k4 : ((lo : Int) < (mid : Int)) := by omega
              have k5 : ((mid : Int) < (ee : Int)) := by omega
              have k6 : ¬ ((ee : Int) < (b : Int)) := by omega
              have HT2 := Lib.hid (HN2'.out (by omega))
              clear hee a1 a2 a3 a4 a5 a6 hA hMM hB hn1' hL hl1 hl2 hR hr1 hr2 h2 hmm2 hbb2 hxs hnn hx hcross hS0
              go_wp2_with (first | (go_at_call 47; (with_reducible refine (I1.out z1 z2 _ HS0.out).mono ?_); rintro e w5 ⟨rfl, h⟩; have HS5 := Lib.hid (show SS w g n cap (A ++ L1 ++ R1 ++ L2 ++ (R2 ++ Z)) w5 from (by simpa using h)); clear h) | (go_at_call 40; (with_reducible refine (I2.out z3 z2 _ HS5.out).mono ?_); rintro e w6 ⟨rfl, p1, hp1, hs1, h⟩; have HP1 := Lib.hid hp1; have HT1 := Lib.hid hs1; have HS6 := Lib.hid (show SS w g n cap (A ++ p1 ++ L2 ++ (R2 ++ Z)) w6 from (by simpa using h)); clear h hp1 hs1))
              all_goals
                go_end0
                obtain ⟨f1, f2⟩ := HFIN.out _ _ HP1.out (List.Perm.refl (L2 ++ R2)) HT1.out HT2.out
                exact ⟨rfl, _, by rw [HLL.out, HRR.out]; exact f1, f2, by have := HS6.out; simpa using this⟩
          · by_cases z4 : 0 < R2.length
            · have k1 : ((lo : Int) < (m : Int)) := by omega
              have k2 : ((m : Int) < (ee : Int)) := by omega
              have k3 : ¬ ((a : Int) < (lo : Int)) := by omega
              have k4 : ((lo : Int) < (mid : Int)) := by omega
              have k5 : ((mid : Int) < (ee : Int)) := by omega
              have k6 : ((ee : Int) < (b : Int)) := by omega
              have HP1 := Lib.hid (List.Perm.refl (L1 ++ R1))
              have HT1 := Lib.hid (HN1'.out (by omega))
              clear hee a1 a2 a3 a4 a5 a6 hA hMM hB hn1' hL hl1 hl2 hR hr1 hr2 h2 hmm2 hbb2 hxs hnn hx hcross hS0
              go_wp2_with (first | (go_at_call 47; (with_reducible refine (I1.out z1 z2 _ HS0.out).mono ?_); rintro e w5 ⟨rfl, h⟩; have HS5 := Lib.hid (show SS w g n cap (A ++ L1 ++ R1 ++ L2 ++ (R2 ++ Z)) w5 from (by simpa using h)); have HS6 := Lib.hid (show SS w g n cap (A ++ (L1 ++ R1) ++ L2 ++ (R2 ++ Z)) w5 from (by simpa using h)); clear h) | (go_at_call 40; (with_reducible refine (I3.out z1 z4 _ (by simp) _ HS6.out).mono ?_); rintro e w7 ⟨rfl, p2, hp2, hs2, h⟩; have HP2 := Lib.hid hp2; have HT2 := Lib.hid hs2; have HS7 := Lib.hid h; clear h hp2 hs2))
              all_goals
                go_end0
                obtain ⟨f1, f2⟩ := HFIN.out _ _ HP1.out HP2.out HT1.out HT2.out
                exact ⟨rfl, _, by rw [HLL.out, HRR.out]; exact f1, f2, by have := HS7.out; simpa using this⟩
            · have k1 : ((lo : Int) < (m : Int)) := by omega
              have k2 : ((m : Int) < (ee : Int)) := by omega
              have k3 : ¬ ((a : Int) < (lo : Int)) := by omega
              have k4 : ((lo : Int) < (mid : Int)) := by omega
              have k5 : ((mid : Int) < (ee : Int)) := by omega
              have k6 : ¬ ((ee : Int) < (b : Int)) := by omega
              have HP1 := Lib.hid (List.Perm.refl (L1 ++ R1))
              have HT1 := Lib.hid (HN1'.out (by omega))
              have HT2 := Lib.hid (HN2'.out (by omega))
              clear hee a1 a2 a3 a4 a5 a6 hA hMM hB hn1' hL hl1 hl2 hR hr1 hr2 h2 hmm2 hbb2 hxs hnn hx hcross hS0
              go_wp2_with (first | (go_at_call 47; (with_reducible refine (I1.out z1 z2 _ HS0.out).mono ?_); rintro e w5 ⟨rfl, h⟩; have HS5 := Lib.hid (show SS w g n cap (A ++ L1 ++ R1 ++ L2 ++ (R2 ++ Z)) w5 from (by simpa using h)); have HS6 := Lib.hid (show SS w g n cap (A ++ (L1 ++ R1) ++ L2 ++ (R2 ++ Z)) w5 from (by simpa using h)); clear h))
              all_goals
                go_end0
                obtain ⟨f1, f2⟩ := HFIN.out _ _ HP1.out (List.Perm.refl (L2 ++ R2)) HT1.out HT2.out
                exact ⟨rfl, _, by rw [HLL.out, HRR.out]; exact f1, f2, by have := HS6.out; simpa using this⟩
        · by_cases z3 : 0 < L1.length
          · by_cases z4 : 0 < R2.length
            · have k1 : ((lo : Int) < (m : Int)) := by omega
              have k2 : ¬ ((m : Int) < (ee : Int)) := by omega
              have k3 : ((a : Int) < (lo : Int)) := by omega
              have k4 : ¬ ((lo : Int) < (mid : Int)) := by omega
              have k5 : ((mid : Int) < (ee : Int)) := by omega
              have k6 : ((ee : Int) < (b : Int)) := by omega
              have HS5 := Lib.hid (show SS w g n cap (A ++ L1 ++ R1 ++ L2 ++ (R2 ++ Z)) wr from by have := HS0.out; rw [List.length_eq_zero_iff.1 (show R1.length = 0 by omega)] at this ⊢; simpa using this)
              have HP1 := Lib.hid (List.Perm.refl (L1 ++ R1))
              have HT1 := Lib.hid (HN1'.out (by omega))
              have HS6 := Lib.hid (show SS w g n cap (A ++ (L1 ++ R1) ++ L2 ++ (R2 ++ Z)) wr from by have := HS5.out; simpa using this)
              clear hee a1 a2 a3 a4 a5 a6 hA hMM hB hn1' hL hl1 hl2 hR hr1 hr2 h2 hmm2 hbb2 hxs hnn hx hcross hS0
              go_wp2_with (first | (go_at_call 40; (with_reducible refine (I3.out z1 z4 _ (by simp) _ HS6.out).mono ?_); rintro e w7 ⟨rfl, p2, hp2, hs2, h⟩; have HP2 := Lib.hid hp2; have HT2 := Lib.hid hs2; have HS7 := Lib.hid h; clear h hp2 hs2))
              all_goals
                go_end0
                obtain ⟨f1, f2⟩ := HFIN.out _ _ HP1.out HP2.out HT1.out HT2.out
                exact ⟨rfl, _, by rw [HLL.out, HRR.out]; exact f1, f2, by have := HS7.out; simpa using this⟩
            · exfalso
              omega
          · by_cases z4 : 0 < R2.length
            · exfalso
              omega
            · exfalso
              omega
      · by_cases z2 : 0 < R1.length
        · by_cases z3 : 0 < L1.length
          · by_cases z4 : 0 < R2.length
            · have k1 : ¬ ((lo : Int) < (m : Int)) := by omega
              have k2 : ((m : Int) < (ee : Int)) := by omega
              have k3 : ((a : Int) < (lo : Int)) := by omega
              have k4 : ((lo : Int) < (mid : Int)) := by omega
              have k5 : ¬ ((mid : Int) < (ee : Int)) := by omega
              have k6 : ((ee : Int) < (b : Int)) := by omega
              have HS5 := Lib.hid (show SS w g n cap (A ++ L1 ++ R1 ++ L2 ++ (R2 ++ Z)) wr from by have := HS0.out; rw [List.length_eq_zero_iff.1 (show L2.length = 0 by omega)] at this ⊢; simpa using this)
              have HT2 := Lib.hid (HN2'.out (by omega))
              clear hee a1 a2 a3 a4 a5 a6 hA hMM hB hn1' hL hl1 hl2 hR hr1 hr2 h2 hmm2 hbb2 hxs hnn hx hcross hS0
              go_wp2_with (first | (go_at_call 40; (with_reducible refine (I2.out z3 z2 _ HS5.out).mono ?_); rintro e w6 ⟨rfl, p1, hp1, hs1, h⟩; have HP1 := Lib.hid hp1; have HT1 := Lib.hid hs1; have HS6 := Lib.hid (show SS w g n cap (A ++ p1 ++ L2 ++ (R2 ++ Z)) w6 from (by simpa using h)); clear h hp1 hs1))
              all_goals
                go_end0
                obtain ⟨f1, f2⟩ := HFIN.out _ _ HP1.out (List.Perm.refl (L2 ++ R2)) HT1.out HT2.out
                exact ⟨rfl, _, by rw [HLL.out, HRR.out]; exact f1, f2, by have := HS6.out; simpa using this⟩
            · exfalso
              omega
          · by_cases z4 : 0 < R2.length
            · exfalso
              omega
            · exfalso
              omega
        · by_cases z3 : 0 < L1.length
          · by_cases z4 : 0 < R2.length
            · have k1 : ¬ ((lo : Int) < (m : Int)) := by omega
              have k2 : ¬ ((m : Int) < (ee : Int)) := by omega
              have k3 : ((a : Int) < (lo : Int)) := by omega
              have k4 : ¬ ((lo : Int) < (mid : Int)) := by omega
              have k5 : ¬ ((mid : Int) < (ee : Int)) := by omega
              have k6 : ((ee : Int) < (b : Int)) := by omega
              have HS5 := Lib.hid (show SS w g n cap (A ++ L1 ++ R1 ++ L2 ++ (R2 ++ Z)) wr from by have := HS0.out; rw [List.length_eq_zero_iff.1 (show L2.length = 0 by omega)] at this ⊢; simpa using this)
              have HP1 := Lib.hid (List.Perm.refl (L1 ++ R1))
              have HT1 := Lib.hid (HN1'.out (by omega))
              have HS6 := Lib.hid (show SS w g n cap (A ++ (L1 ++ R1) ++ L2 ++ (R2 ++ Z)) wr from by have := HS5.out; simpa using this)
              have HT2 := Lib.hid (HN2'.out (by omega))
              clear hee a1 a2 a3 a4 a5 a6 hA hMM hB hn1' hL hl1 hl2 hR hr1 hr2 h2 hmm2 hbb2 hxs hnn hx hcross hS0
              go_wp2_with fail
              all_goals
                go_end0
                obtain ⟨f1, f2⟩ := HFIN.out _ _ HP1.out (List.Perm.refl (L2 ++ R2)) HT1.out HT2.out
                exact ⟨rfl, _, by rw [HLL.out, HRR.out]; exact f1, f2, by have := HS6.out; simpa using this⟩
            · exfalso
              omega
          · by_cases z4 : 0 < R2.length
            · exfalso
              omega
            · exfalso
              omega
end Go.Proofs.Ytkdhhafoohnlnaa
