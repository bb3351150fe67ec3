/-
  The walk of symMergeCmpFunc, where the second stretch is of one.
-/
import Derived.Test.YtkdhhafoohnlnaaSym3
namespace Go.Proofs.Ytkdhhafoohnlnaa
open Go.RowKit

set_option maxRecDepth 100000 in
set_option maxHeartbeats 8000000 in
theorem sym40_last {w wr : World} {g n cap a m b bk bd c y : Nat} {K : List (List Vl)} {d : List Bool} {A L Z : List Nat} (hcl : Clo w bk bd K d) (he : Even K c) (hS : SS w g n cap (A ++ L ++ [y] ++ Z) wr) (h2 : Two K d L [y]) (hL2 : 2 ≤ L.length) (ha : a = A.length) (hm : m = A.length + L.length) (hb : b = A.length + L.length + 1) (hn : n ≤ 1000) :
    Calls Try.prog 40 #[.slice (some ⟨g, 0, none⟩) n cap, .int .i64 a, .int .i64 m, .int .i64 b, cloV bk bd] wr fun e w' => e = .returned (.tuple #[]) ∧ ∃ p, p.Perm (L ++ [y]) ∧ p.Pairwise (TT K d) ∧ SS w g n cap (A ++ p ++ Z) w' := by
  have hlen := hS.len
  simp only [List.length_append, List.length_cons, List.length_nil] at hlen
  have hM := h2.mrg (Z := Z) (a := a) (m := m) (b := b) ha hm (by simpa using hb)
  have hmono := hM.mono2 he (by omega)
  obtain ⟨xs, hxs⟩ : ∃ xs, xs = A ++ L ++ [y] ++ Z := ⟨_, rfl⟩
  rw [← hxs] at hS hM hmono
  have hxm : xAt xs m = y := by
    have := at_right (A := A) (L := L) (R := [y]) (Z := Z) (i := m) (by omega) (by simp; omega)
    rw [← hxs, show m - (A.length + L.length) = 0 by omega] at this
    injection this with this
    exact this.symm
  obtain ⟨ml, hml⟩ : ∃ ml, ml = m - a := ⟨_, rfl⟩
  have hma : (m : Int) - (a : Int) = (ml : Int) := by omega
  have hml1 : ¬ (ml : Int) = 1 := by omega
  have hml2 : ((ml : Int) == 1) = false := by simpa using hml1
  have hbm : (b : Int) - (m : Int) = 1 := by omega
  have ham : a ≤ m := by omega
  have hbn : b ≤ n := by omega
  have hmb : m < b := by omega
  have HCL := Lib.hid hcl
  have HM := Lib.hid hM
  have HMONO := Lib.hid hmono
  have HS := Lib.hid hS
  have H2 := Lib.hid h2
  have HA := Lib.hid ha
  have HMM := Lib.hid hm
  have HB := Lib.hid hb
  have HXS := Lib.hid hxs
  have HXM := Lib.hid hxm
  have HLEN := Lib.hid (show xs.length = n from hS.len)
  clear hcl he hS h2 ha hm hb hlen hM hmono hxs hxm hml hL2
  go_enter Try.func40, Try.ntmps40
  go_wp2_with fail
  go_loopw [14, 15] (fun i j wx => ∃ lo hi : Nat, i = .int .i64 lo ∧ j = .int .i64 hi ∧ Srch (fun q => !ltI K d (xAt xs m) (xAt xs q)) a m lo hi ∧ SS w g n cap xs wx) (fun i j _ => (intOf j).toNat - (intOf i).toNat)
  case atStart => exact ⟨a, m, rfl, rfl, Srch.start ham, HS.out⟩
  case round =>
    obtain ⟨lo, hi, rfl, rfl, hSr, hS⟩ := hrel
    have hsge := hSr.ge
    have hsle := hSr.le
    have hstop := hSr.top
    have HSR := Lib.hid hSr
    have HSS := Lib.hid hS
    clear hSr hS HS
    by_cases hlt : lo < hi
    · obtain ⟨h, hh⟩ : ∃ h, h = (lo + hi) / 2 := ⟨_, rfl⟩
      have hlo : lo ≤ h := by omega
      have hhi : h < hi := by omega
      have hh2 : ((lo : Int) + (hi : Int)) / 2 = (h : Int) := by omega
      have hlti : (lo : Int) < (hi : Int) := by omega
      have hhn : h < n := by omega
      have hmn : m < n := by omega
      have hhni : (h : Int) < (n : Int) := by omega
      have hmni : (m : Int) < (n : Int) := by omega
      obtain ⟨e, hee⟩ : ∃ e, e = xAt xs h := ⟨_, rfl⟩
      obtain ⟨c1, f1⟩ := HSS.out.cell (i := h) (x := e) (by rw [hee]; exact xAt_get (by rw [HLEN.out]; exact hhn))
      obtain ⟨c2, f2⟩ := HSS.out.cell (i := m) (x := y) (by rw [← HXM.out]; exact xAt_get (by rw [HLEN.out]; exact hmn))
      have hek : e < K.length := by rw [hee]; exact HM.out.bd h (by omega) (by omega)
      have hyk : y < K.length := by rw [← HXM.out]; exact HM.out.bd m ham hmb
      have HCALL := Lib.hid (fun (w0 : World) (hC : Chg [] _ w0) => HCL.out w0 ((HSS.out.still hC).bel) y e hyk hek)
      have hlt' := cmpB_lt K d y e
      obtain ⟨q, hq⟩ : ∃ q, q = cmpB K d y e := ⟨_, rfl⟩
      obtain ⟨l, hl⟩ : ∃ l, l = ltI K d y e := ⟨_, rfl⟩
      rw [← hq] at HCALL hlt'
      rw [← hl] at hlt'
      have hfl : (!ltI K d (xAt xs m) (xAt xs h)) = !l := by rw [← hee, HXM.out, hl]
      have HFL := Lib.hid hfl
      have HLO := Lib.hid hlo
      have HHI := Lib.hid hhi
      clear hh hee hek hyk hq hl hfl f1 f2 hlo hhi
      cases l with
      | false =>
        have HUP := Lib.hid (HSR.out.up HMONO.out HLO.out HHI.out HFL.out)
        go_wp2_with fail
        go_region_held3 (fun w' => w'.cell? ⟨g, h, none⟩ = some (.int .i64 e) ∧ w'.cell? ⟨g, m, none⟩ = some (.int .i64 y)) (first | with_reducible exact ⟨c1, c2⟩ | with_reducible exact ⟨y1, y2⟩ | go_keep)
          (first
           | (go_at_call 28; (with_reducible refine (HCALL.out _ (by first | exact (Chg.refl [] _).drew | exact (Chg.refl [] _).same)).mono ?_); rintro ee w2 ⟨rfl, hC2⟩; have y1 := hC2.cell (p := ⟨g, h, none⟩) (by exact c1) (by simp); have y2 := hC2.cell (p := ⟨g, m, none⟩) (by exact c2) (by simp); have HC2 := Lib.hid hC2; clear hC2))
        go_wp2_with fail
        go_roundw
        case measure => have := HLO.out; have := HHI.out; simp [intOf]; omega
        case rel => exact ⟨h + 1, hi, by go_num, rfl, HUP.out, HSS.out.still ((Chg.refl [] _).drew.trans HC2.out)⟩
      | true =>
        have HDN := Lib.hid (HSR.out.down HMONO.out HLO.out HHI.out HFL.out)
        go_wp2_with fail
        go_region_held3 (fun w' => w'.cell? ⟨g, h, none⟩ = some (.int .i64 e) ∧ w'.cell? ⟨g, m, none⟩ = some (.int .i64 y)) (first | with_reducible exact ⟨c1, c2⟩ | with_reducible exact ⟨y1, y2⟩ | go_keep)
          (first
           | (go_at_call 28; (with_reducible refine (HCALL.out _ (by first | exact (Chg.refl [] _).drew | exact (Chg.refl [] _).same)).mono ?_); rintro ee w2 ⟨rfl, hC2⟩; have y1 := hC2.cell (p := ⟨g, h, none⟩) (by exact c1) (by simp); have y2 := hC2.cell (p := ⟨g, m, none⟩) (by exact c2) (by simp); have HC2 := Lib.hid hC2; clear hC2))
        go_wp2_with fail
        go_roundw
        case measure => have := HLO.out; have := HHI.out; simp [intOf]; omega
        case rel => exact ⟨lo, h, rfl, rfl, HDN.out, HSS.out.still ((Chg.refl [] _).drew.trans HC2.out)⟩
    · have hle : lo = hi := by omega
      subst hle
      obtain ⟨r, hr⟩ : ∃ r, r = lo - a := ⟨_, rfl⟩
      obtain ⟨s, hs⟩ : ∃ s, s = m - lo := ⟨_, rfl⟩
      obtain ⟨L1, L2, hL, hL1, hL2⟩ : ∃ L1 L2, L = L1 ++ L2 ∧ L1.length = r ∧ L2.length = s := ⟨L.take r, L.drop r, (List.take_append_drop _ _).symm, by rw [List.length_take]; have := HA.out; have := HMM.out; omega, by rw [List.length_drop]; have := HA.out; have := HMM.out; omega⟩
      have hget : ∀ (q x : Nat), L[q]? = some x → xAt xs (a + q) = x := by
        intro q x hq
        have hql := getElem?_lt hq
        have := at_left (A := A) (L := L) (R := [y]) (Z := Z) (i := a + q) (by rw [HA.out]; omega) (by rw [HA.out]; omega)
        rw [← HXS.out, show a + q - A.length = q by rw [HA.out]; omega, hq] at this
        injection this with this
        exact this.symm
      have hmxm := HXM.out
      have hup : ∀ x, x ∈ L1 → TT K d x y := by
        intro x hx
        obtain ⟨q, hq⟩ := List.getElem?_of_mem hx
        have hql := getElem?_lt hq
        have hqL : L[q]? = some x := by rw [hL, List.getElem?_append_left hql]; exact hq
        have h1 := HSR.out.yes (a + q) (by omega) (by omega)
        simp only [Bool.not_eq_true'] at h1
        have h3 := (HM.out.not_less (i := a + q) (by omega) (by omega) (Nat.le_refl m) hmb).1 h1
        rw [hget q x hqL, hmxm] at h3
        exact h3
      have hdn : ∀ x, x ∈ L2 → TT K d y x := by
        intro x hx
        obtain ⟨q, hq⟩ := List.getElem?_of_mem hx
        have hql := getElem?_lt hq
        have hqL : L[r + q]? = some x := by rw [hL, List.getElem?_append_right (by omega), hL1, show r + q - r = q by omega]; exact hq
        have h1 := HSR.out.no (a + (r + q)) (by omega) (by omega)
        simp only [Bool.not_eq_false'] at h1
        have h3 := (HM.out.less (i := a + (r + q)) (by omega) (by omega) (Nat.le_refl m) hmb).1 h1
        rw [hget (r + q) x hqL, hmxm] at h3
        exact h3
      have hfin : (L1 ++ y :: L2).Pairwise (TT K d) := put_sorted (by rw [← hL]; exact H2.out.sl) hup hdn
      have hperm : (L1 ++ y :: L2).Perm (L ++ [y]) := by
        rw [hL]
        refine List.perm_middle.trans ?_
        exact (List.perm_append_comm (l₁ := [y]) (l₂ := L1 ++ L2))
      have hS0 : SS w g n cap (dnS (A ++ L1) L2 Z y s) wr := by
        have := HSS.out
        rw [HXS.out, hL] at this
        rw [← hL2, dnS_start]
        simpa using this
      have HFIN := Lib.hid hfin
      have HPERM := Lib.hid hperm
      have HS0 := Lib.hid hS0
      have HL2 := Lib.hid hL2
      have hal : (A ++ L1).length = lo := by rw [List.length_append, hL1]; have := HA.out; omega
      have HAL := Lib.hid hal
      have hms : m = lo + s := by omega
      have HMS := Lib.hid hms
      clear hr hs hL hL1 hL2 hget hup hdn hfin hperm hS0 hmxm hal hms
      go_wp2_with fail
      go_loopw [17] (fun k wx => ∃ t kk : Nat, k = .int .i64 kk ∧ kk = lo + t ∧ t ≤ s ∧ SS w g n cap (dnS (A ++ L1) L2 Z y t) wx) (fun k _ => (intOf k).toNat)
      case atStart => exact ⟨s, m, rfl, HMS.out, by omega, HS0.out⟩
      case round =>
        obtain ⟨t, kk, rfl, hkk, ht, hS⟩ := hrel
        have HST := Lib.hid hS
        clear hS
        by_cases ht0 : 0 < t
        · obtain ⟨u, rfl⟩ : ∃ u, t = u + 1 := ⟨t - 1, by omega⟩
          obtain ⟨x, hy, hx, hst⟩ := dnS_step (A := A ++ L1) (L2 := L2) (T := Z) (y := y) (t := u) (by rw [HL2.out]; omega)
          have HST1 := HST.out
          obtain ⟨k1, hk1⟩ : ∃ k1, k1 = kk - 1 := ⟨_, rfl⟩
          have e1 : (A ++ L1).length + u = k1 := by rw [HAL.out]; omega
          have e2 : (A ++ L1).length + u + 1 = kk := by rw [HAL.out]; omega
          rw [e2] at hy hst
          rw [e1] at hx hst
          obtain ⟨c1, f1⟩ := HST.out.cell hy
          obtain ⟨c2, f2⟩ := HST.out.cell hx
          have hkl : (lo : Int) < (kk : Int) := by omega
          have s1 : (kk : Int) - 1 = (k1 : Int) := by omega
          have hms := HMS.out
          have hkn : kk < n := by omega
          have hk1n : k1 < n := by omega
          have t1 : IntKind.i64.wrap (k1 : Int) = (k1 : Int) := IntWalk.i64_in _ (by omega)
          have t4 : (0 : Int) ≤ (k1 : Int) := by omega
          have hkni : (kk : Int) < (n : Int) := by omega
          have hk1ni : (k1 : Int) < (n : Int) := by omega
          have HST2 := Lib.hid hst
          have HKK := Lib.hid hkk
          have HK1 := Lib.hid hk1
          clear hx hy hst hkk hk1 e1 e2 hms HST1
          go_wp2_with fail
          go_region
          go_wp2_with fail
          go_roundw
          case measure => have := HK1.out; have := HKK.out; simp [intOf]; omega
          case rel => exact ⟨u, k1, rfl, by have := HK1.out; have := HKK.out; omega, by omega, by rw [← HST2.out]; exact (HST.out.swap hkn hk1n x y).still ((Chg.refl [] _).drew)⟩
        · have hte : t = 0 := by omega
          have hke : kk = lo := by omega
          have hS := HST.out
          rw [hte, dnS_done] at hS
          have HSF := Lib.hid hS
          clear hkk hte hS
          subst hke
          go_wp2_with fail
          refine bodyPost_ret (results_none rfl _ _ _) rfl ?_
          exact ⟨rfl, L1 ++ y :: L2, HPERM.out, HFIN.out, by have := HSF.out; simpa using this⟩
end Go.Proofs.Ytkdhhafoohnlnaa
