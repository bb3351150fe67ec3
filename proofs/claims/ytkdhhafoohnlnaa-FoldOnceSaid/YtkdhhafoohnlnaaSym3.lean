/-
  The walk of symMergeCmpFunc, where the first stretch is of one.
-/
import Derived.Test.YtkdhhafoohnlnaaSym2
import Derived.Test.YtkdhhafoohnlnaaSymR
namespace Go.Proofs.Ytkdhhafoohnlnaa
open Go.RowKit

set_option maxRecDepth 100000 in
set_option maxHeartbeats 8000000 in
theorem sym40_one {w wr : World} {g n cap a m b bk bd c x : Nat} {K : List (List Vl)} {d : List Bool} {A R Z : List Nat} (hcl : Clo w bk bd K d) (he : Even K c) (hS : SS w g n cap (A ++ [x] ++ R ++ Z) wr) (h2 : Two K d [x] R) (ha : a = A.length) (hm : m = A.length + 1) (hb : b = A.length + 1 + R.length) (hn : n ≤ 1000) :
    Calls Try.prog 40 #[.slice (some ⟨g, 0, none⟩) n cap, .int .i64 a, .int .i64 m, .int .i64 b, cloV bk bd] wr fun e w' => e = .returned (.tuple #[]) ∧ ∃ p, p.Perm ([x] ++ R) ∧ p.Pairwise (TT K d) ∧ SS w g n cap (A ++ p ++ Z) w' := by
  have hlen := hS.len
  simp only [List.length_append, List.length_cons, List.length_nil] at hlen
  have hM := h2.mrg (Z := Z) (a := a) (m := m) (b := b) ha (by simpa using hm) (by simpa using hb)
  have hmono := hM.mono1 he (by omega) (by omega)
  obtain ⟨xs, hxs⟩ : ∃ xs, xs = A ++ [x] ++ R ++ Z := ⟨_, rfl⟩
  rw [← hxs] at hS hM hmono
  have hxa : xAt xs a = x := by
    have := at_left (A := A) (L := [x]) (R := R) (Z := Z) (i := a) (by omega) (by simp; omega)
    rw [← hxs, show a - A.length = 0 by omega] at this
    injection this with this
    exact this.symm
  have hma : (m : Int) - (a : Int) = 1 := by omega
  have hmb : m ≤ b := by omega
  have hbn : b ≤ n := by omega
  have ham : a < m := by omega
  have HCL := Lib.hid hcl
  have HM := Lib.hid hM
  have HMONO := Lib.hid hmono
  have HS := Lib.hid hS
  have H2 := Lib.hid h2
  have HA := Lib.hid ha
  have HMM := Lib.hid hm
  have HB := Lib.hid hb
  have HXS := Lib.hid hxs
  have HXA := Lib.hid hxa
  have HLEN := Lib.hid (show xs.length = n from hS.len)
  obtain ⟨cx, fx⟩ := hS.cell (i := a) (x := x) (by rw [← hxa]; exact xAt_get (by rw [hS.len]; omega))
  clear hcl he hS h2 ha hm hb hlen hM hmono hxs hxa cx fx
  go_enter Try.func40, Try.ntmps40
  go_wp2_with fail
  go_loopw [10, 11] (fun i j wx => ∃ lo hi : Nat, i = .int .i64 lo ∧ j = .int .i64 hi ∧ Srch (fun q => ltI K d (xAt xs q) (xAt xs a)) m b lo hi ∧ SS w g n cap xs wx) (fun i j _ => (intOf j).toNat - (intOf i).toNat)
  case atStart => exact ⟨m, b, rfl, rfl, Srch.start hmb, HS.out⟩
  case round =>
    obtain ⟨lo, hi, rfl, rfl, hSr, hS⟩ := hrel
    have hsge := hSr.ge
    have hsle := hSr.le
    have hstop := hSr.top
    have HSR := Lib.hid hSr
    have HSS := Lib.hid hS
    clear hSr hS HS
    by_cases hlt : lo < hi
    · obtain ⟨h, hh⟩ : ∃ h, h = (lo + hi) / 2 := ⟨_, rfl⟩
      have hlo : lo ≤ h := by omega
      have hhi : h < hi := by omega
      have hh2 : ((lo : Int) + (hi : Int)) / 2 = (h : Int) := by omega
      have hlti : (lo : Int) < (hi : Int) := by omega
      have hhn : h < n := by omega
      have han : a < n := by omega
      have hhni : (h : Int) < (n : Int) := by omega
      have hani : (a : Int) < (n : Int) := by omega
      obtain ⟨e, hee⟩ : ∃ e, e = xAt xs h := ⟨_, rfl⟩
      obtain ⟨c1, f1⟩ := HSS.out.cell (i := h) (x := e) (by rw [hee]; exact xAt_get (by rw [HLEN.out]; exact hhn))
      obtain ⟨c2, f2⟩ := HSS.out.cell (i := a) (x := x) (by rw [← HXA.out]; exact xAt_get (by rw [HLEN.out]; exact han))
      have hek : e < K.length := by rw [hee]; exact HM.out.bd h (by omega) (by omega)
      have hxk : x < K.length := by rw [← HXA.out]; exact HM.out.bd a (Nat.le_refl a) (by omega)
      have HCALL := Lib.hid (fun (w0 : World) (hC : Chg [] _ w0) => HCL.out w0 ((HSS.out.still hC).bel) e x hek hxk)
      have hlt' := cmpB_lt K d e x
      obtain ⟨q, hq⟩ : ∃ q, q = cmpB K d e x := ⟨_, rfl⟩
      obtain ⟨l, hl⟩ : ∃ l, l = ltI K d e x := ⟨_, rfl⟩
      rw [← hq] at HCALL hlt'
      rw [← hl] at hlt'
      have hfl : ltI K d (xAt xs h) (xAt xs a) = l := by rw [← hee, HXA.out, hl]
      have HFL := Lib.hid hfl
      have HLO := Lib.hid hlo
      have HHI := Lib.hid hhi
      clear hh hee hek hxk hq hl hfl f1 f2 hlo hhi
      cases l with
      | true =>
        have HUP := Lib.hid (HSR.out.up HMONO.out HLO.out HHI.out HFL.out)
        go_wp2_with fail
        go_region_held3 (fun w' => w'.cell? ⟨g, h, none⟩ = some (.int .i64 e) ∧ w'.cell? ⟨g, a, none⟩ = some (.int .i64 x)) (first | with_reducible exact ⟨c1, c2⟩ | with_reducible exact ⟨y1, y2⟩ | go_keep)
          (first
           | (go_at_call 28; (with_reducible refine (HCALL.out _ (by first | exact (Chg.refl [] _).drew | exact (Chg.refl [] _).same)).mono ?_); rintro ee w2 ⟨rfl, hC2⟩; have y1 := hC2.cell (p := ⟨g, h, none⟩) (by exact c1) (by simp); have y2 := hC2.cell (p := ⟨g, a, none⟩) (by exact c2) (by simp); have HC2 := Lib.hid hC2; clear hC2))
        go_wp2_with fail
        go_roundw
        case measure => have := HLO.out; have := HHI.out; simp [intOf]; omega
        case rel => exact ⟨h + 1, hi, by go_num, rfl, HUP.out, HSS.out.still ((Chg.refl [] _).drew.trans HC2.out)⟩
      | false =>
        have HDN := Lib.hid (HSR.out.down HMONO.out HLO.out HHI.out HFL.out)
        go_wp2_with fail
        go_region_held3 (fun w' => w'.cell? ⟨g, h, none⟩ = some (.int .i64 e) ∧ w'.cell? ⟨g, a, none⟩ = some (.int .i64 x)) (first | with_reducible exact ⟨c1, c2⟩ | with_reducible exact ⟨y1, y2⟩ | go_keep)
          (first
           | (go_at_call 28; (with_reducible refine (HCALL.out _ (by first | exact (Chg.refl [] _).drew | exact (Chg.refl [] _).same)).mono ?_); rintro ee w2 ⟨rfl, hC2⟩; have y1 := hC2.cell (p := ⟨g, h, none⟩) (by exact c1) (by simp); have y2 := hC2.cell (p := ⟨g, a, none⟩) (by exact c2) (by simp); have HC2 := Lib.hid hC2; clear hC2))
        go_wp2_with fail
        go_roundw
        case measure => have := HLO.out; have := HHI.out; simp [intOf]; omega
        case rel => exact ⟨lo, h, rfl, rfl, HDN.out, HSS.out.still ((Chg.refl [] _).drew.trans HC2.out)⟩
    · have hle : lo = hi := by omega
      subst hle
      obtain ⟨r, hr⟩ : ∃ r, r = lo - m := ⟨_, rfl⟩
      obtain ⟨R1, R2, hR, hR1⟩ : ∃ R1 R2, R = R1 ++ R2 ∧ R1.length = r := ⟨R.take r, R.drop r, (List.take_append_drop _ _).symm, by rw [List.length_take]; have := HB.out; have := HMM.out; omega⟩
      have hget : ∀ (q y : Nat), R[q]? = some y → xAt xs (m + q) = y := by
        intro q y hq
        have hql := getElem?_lt hq
        have := at_right (A := A) (L := [x]) (R := R) (Z := Z) (i := m + q) (by rw [HMM.out]; simp) (by rw [HMM.out]; simp; omega)
        rw [← HXS.out, show m + q - (A.length + [x].length) = q by rw [HMM.out]; simp, hq] at this
        injection this with this
        exact this.symm
      have hmxa := HXA.out
      have hup : ∀ y, y ∈ R1 → TT K d y x := by
        intro y hy
        obtain ⟨q, hq⟩ := List.getElem?_of_mem hy
        have hql := getElem?_lt hq
        have hqR : R[q]? = some y := by rw [hR, List.getElem?_append_left hql]; exact hq
        have hqr := getElem?_lt hqR
        have h1 := HSR.out.yes (m + q) (by omega) (by omega)
        have h3 := (HM.out.less (Nat.le_refl a) ham (j := m + q) (by omega) (by have := HB.out; have := HMM.out; omega)).1 h1
        rw [hget q y hqR, hmxa] at h3
        exact h3
      have hdn : ∀ y, y ∈ R2 → TT K d x y := by
        intro y hy
        obtain ⟨q, hq⟩ := List.getElem?_of_mem hy
        have hqR : R[r + q]? = some y := by rw [hR, List.getElem?_append_right (by omega), hR1, show r + q - r = q by omega]; exact hq
        have hqr := getElem?_lt hqR
        have hmb' : m + (r + q) < b := by have := HB.out; have := HMM.out; omega
        have h1 := HSR.out.no (m + (r + q)) (by omega) hmb'
        have h3 := (HM.out.not_less (Nat.le_refl a) ham (j := m + (r + q)) (by omega) hmb').1 h1
        rw [hget (r + q) y hqR, hmxa] at h3
        exact h3
      have hfin : (R1 ++ x :: R2).Pairwise (TT K d) := put_sorted (by rw [← hR]; exact H2.out.sr) hup hdn
      have hperm : (R1 ++ x :: R2).Perm ([x] ++ R) := by rw [hR]; exact List.perm_middle
      have hS0 : SS w g n cap (upS A R1 (R2 ++ Z) x 0) wr := by
        have := HSS.out
        rw [HXS.out, hR] at this
        rw [upS_zero]
        simpa using this
      have HFIN := Lib.hid hfin
      have HPERM := Lib.hid hperm
      have HS0 := Lib.hid hS0
      have HR1 := Lib.hid hR1
      have hlor : lo = a + 1 + r := by have := HA.out; have := HMM.out; omega
      have hloi : (lo : Int) - 1 = ((a + r : Nat) : Int) := by omega
      have harn : a + r + 1 ≤ n := by have := HB.out; have := HMM.out; omega
      have HLOR := Lib.hid hlor
      obtain ⟨ar, har⟩ : ∃ ar, ar = a + r := ⟨_, rfl⟩
      rw [← har] at hloi harn
      have HAR := Lib.hid har
      clear hr hR hR1 hget hup hdn hfin hperm hS0 hmxa hlor har
      go_wp2_with fail
      go_loopw [13] (fun k wx => ∃ t kk : Nat, k = .int .i64 kk ∧ kk = a + t ∧ t ≤ r ∧ SS w g n cap (upS A R1 (R2 ++ Z) x t) wx) (fun k _ => n - (intOf k).toNat)
      case atStart => exact ⟨0, a, rfl, rfl, by omega, HS0.out⟩
      case round =>
        obtain ⟨t, kk, rfl, hkk, ht, hS⟩ := hrel
        have HST := Lib.hid hS
        clear hS
        by_cases htr : t < r
        · obtain ⟨y, hx, hy, hst⟩ := upS_step (A := A) (R1 := R1) (T := R2 ++ Z) (x := x) (t := t) (by rw [HR1.out]; exact htr)
          rw [← HA.out, ← hkk] at hx hy hst
          obtain ⟨k1, hk1⟩ : ∃ k1, k1 = kk + 1 := ⟨_, rfl⟩
          rw [← hk1] at hy hst
          obtain ⟨c1, f1⟩ := HST.out.cell hx
          obtain ⟨c2, f2⟩ := HST.out.cell hy
          have hka : kk < ar := by rw [HAR.out]; omega
          have hkai : (kk : Int) < (ar : Int) := by omega
          have s1 : (kk : Int) + 1 = (k1 : Int) := by omega
          have t1 : IntKind.i64.wrap (k1 : Int) = (k1 : Int) := IntWalk.i64_in _ (by omega)
          have t4 : (0 : Int) ≤ (k1 : Int) := by omega
          have hkn : kk < n := by omega
          have hk1n : k1 < n := by omega
          have hkni : (kk : Int) < (n : Int) := by omega
          have hk1ni : (k1 : Int) < (n : Int) := by omega
          have HST2 := Lib.hid hst
          have HKK := Lib.hid hkk
          have HK1 := Lib.hid hk1
          clear hx hy hst hkk hk1
          go_wp2_with fail
          go_region
          go_wp2_with fail
          go_roundw
          case measure => have := HK1.out; simp [intOf]; omega
          case rel => exact ⟨t + 1, k1, rfl, by have := HK1.out; have := HKK.out; omega, by omega, by rw [← HST2.out]; exact (HST.out.swap hkn hk1n y x).still ((Chg.refl [] _).drew)⟩
        · have hte : t = r := by omega
          have hke : kk = ar := by have := HAR.out; omega
          have hS := HST.out
          rw [hte, ← HR1.out, upS_done] at hS
          have HSF := Lib.hid hS
          clear hkk hte hS
          subst hke
          go_wp2_with fail
          refine bodyPost_ret (results_none rfl _ _ _) rfl ?_
          exact ⟨rfl, R1 ++ x :: R2, HPERM.out, HFIN.out, by have := HSF.out; simpa using this⟩
end Go.Proofs.Ytkdhhafoohnlnaa
