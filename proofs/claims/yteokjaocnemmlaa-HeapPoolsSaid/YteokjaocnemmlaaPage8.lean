/-
  The walks of package page: Free.
-/
import Derived.Test.YteokjaocnemmlaaPageQ
namespace Go.Proofs.Yteokjaocnemmlaa
open Go.RowKit

theorem pfree_none (p s : Value) (w : World) (hb : Hid (Calls Try.prog 73 #[p, s] w fun e w' => e = .returned (.slice none 0 0) ∧ ∃ n, w' = w.drewN n)) :
    Calls Try.prog 52 #[p, s] w fun e w' => e = .returned (.int .i64 15) ∧ ∃ n, w' = w.drewN n := by
  have eq0 := @Lib.run_eql_slice_nil Try.prog
  go_enter Try.func52, Try.ntmps52
  go_wp2_with (first | (go_at_call 73; refine hb.out.mono ?_; rintro e w' ⟨rfl, n, rfl⟩))
  go_ret
  exact ⟨rfl, n, rfl⟩

theorem cut_eq {L : PL} {n : Nat} {t : Tup} (h : L[n]? = some (some t)) : cut L (n + 1) = n + 1 := by simp [cut, h]
theorem cut_none {L : PL} {n : Nat} (h : L[n]? = some none) : cut L (n + 1) = cut L n := by simp [cut, h]

theorem start_cleared {p o n : Nat} {f : Nat → Int} {L : PL} {fr : Nat → Nat} {st : Nat} (h : PG f L fr st) (ho : 4 ≤ o) (w : World) (hp : Lies w p (splice f o n (fun _ => 0))) :
    Calls Try.prog 70 #[.pointer (some ⟨p, 0, none⟩)] w fun e w' => e = .returned (.int .i64 st) ∧ w = w' := by
  have := start_any p _ w (splice_bytes (a := o) (n := n) (g := fun _ => 0) h.bytes (fun i _ => by simp)) hp
  rw [show staF (splice f o n (fun _ => 0)) = u16 f 2 by unfold staF u16; rw [splice_out (by omega), splice_out (by omega)], h.sta] at this
  exact this
theorem trimmed {f2 f3 : Nat → Int} {L2 : PL} {fr : Nat → Nat} {st m k o q : Nat} (h : PG f2 L2 fr st) (hm : m = L2.length) (hk : cut L2 m = k) (ho : o = 4 + 4 * k) (hq : q = 4 + 4 * m) (hf : f3 = setF (splice f2 o (q - o) (fun _ => 0)) k st) : PG f3 (trim L2) fr st := by
  subst hm hf
  have hc := cut_le L2 L2.length
  have e : 4 + 4 * L2.length - (4 + 4 * k) = 4 * (L2.length - k) := by omega
  rw [ho, hq, e]
  unfold trim
  rw [hk] at hc ⊢
  exact h.take hc
theorem zero5 (w : World) : (zeroValue 5).run Try.prog w = .ok (.int .u8 0) w := by
  obtain ⟨i, hi, hz, _, _⟩ := info_parts Try.info5
  simp [zeroValue, typeInfo, hi, hz]
section
variable {p : Nat} {f : Nat → Int} {L : PL} {fr : Nat → Nat} {st : Nat} {w : World}
set_option maxRecDepth 100000 in
set_option maxHeartbeats 4000000 in
theorem pfree_ok (h : PG f L fr st) (hp : Lies w p f) {s : Nat} {t : Tup} (hs : L[s]? = some (some t)) :
    Calls Try.prog 52 #[.pointer (some ⟨p, 0, none⟩), .int .i64 s] w fun e w' => e = .returned (.int .i64 0) ∧ (∃ f', Lies w' p f' ∧ PG f' (rem L s) fr st) ∧ Chg [p] w w' := by
  have eq0 := @Lib.run_eql_slice_nil Try.prog
  have hbs := fun (w : World) (hp : Lies w p f) => pbytes_used h hp hs
  have hl := getElem?_lt hs
  have hlies := h.lies s t hs
  have hz := t.size_lo
  have hd := h.drop hs
  obtain ⟨L2, hL2⟩ : ∃ L2, L2 = L.set s none := ⟨_, rfl⟩
  have hlen : L2.length = L.length := by rw [hL2]; simp
  have hlo := h.lo
  have hhi := h.hi
  rw [← hL2] at hd
  obtain ⟨m, hm⟩ : ∃ m, m = L2.length := ⟨_, rfl⟩
  obtain ⟨f2, hf2⟩ : ∃ f2, f2 = dropF f (fr s) t.size s := ⟨_, rfl⟩
  obtain ⟨a, ha⟩ : ∃ a, a = fr s := ⟨_, rfl⟩
  obtain ⟨z, hzz⟩ : ∃ z, z = t.size := ⟨_, rfl⟩
  have hms : s < m := by omega
  have hm4 : 4 + 4 * m ≤ 482 := by omega
  rw [← hf2] at hd
  rw [← ha, ← hzz] at hbs hf2 hlies
  have hcnt := fun (w : World) (hp : Lies w p f2) => pcount p hd w hp
  rw [← hm] at hcnt
  have hsta := fun (w : World) (hp : Lies w p f2) => pstart p hd w hp
  have hne : ¬ (512 = a) := by omega
  have haz : a + z ≤ 512 := hlies.2
  have hst0 : (0 : Int) ≤ st := by omega
  have hst1 : (st : Int) ≤ 65535 := by omega
  have HB := Lib.hid hbs
  have HP := Lib.hid hp
  have HD := Lib.hid hd
  have HC := Lib.hid hcnt
  have HS := Lib.hid hsta
  have HF2 := Lib.hid hf2
  have HL2 := Lib.hid hL2
  have HM := Lib.hid hm
  clear hbs hp hd hcnt hsta hf2 hL2 hm hs hlies hlen hl ha hzz hz hlo hhi h
  go_enter Try.func52, Try.ntmps52
  go_wp2_with (first | (go_at_call 73; refine (HB.out _ (by exact HP.out)).mono ?_; rintro e w' ⟨rfl, n1, rfl⟩) | (refine wpList_clear rfl (.tmp 12) 57 5 rfl Try.underlying57 zero5 p a z (512 - a) 134 512 f rfl HP.out haz ?_; intro w2 hp2 hC2; have HP2 := Lib.hid hp2; have HC2 := Lib.hid hC2; clear hp2 hC2))
  have hpp := point_any p s (splice f a z (fun _ => 0)) 0 0 _ (by omega) (by omega) (by omega) HP2.out
  have HPP := Lib.hid hpp
  clear hpp
  go_wp2_with (first | (go_at_call 72; refine HPP.out.mono ?_; rintro e w3 ⟨rfl, hp3, hC3⟩; rw [show pointF (splice f a z (fun _ => 0)) s 0 0 = f2 from HF2.out.symm] at hp3; have HP3 := Lib.hid hp3; have HC3 := Lib.hid hC3; clear hp3 hC3) | (go_at_call 69; refine (HC.out _ (by exact HP3.out)).mono ?_; rintro e w' ⟨rfl, rfl⟩))
  have HC13 : Hid (Chg [p] w w3) := Lib.hid ((((Chg.refl _ w).drewN n1).trans HC2.out).trans HC3.out)
  have HG3 : Hid (∀ k, Lies (w3.drewN k) p f2) := Lib.hid (fun k => HP3.out)
  clear HPP
  go_loopw [6] (fun i wr => ∃ (k n : Nat), i = .int .i64 k ∧ k ≤ m ∧ cut L2 k = cut L2 m ∧ wr = w3.drewN n) (fun i _ => (intOf i).toNat)
  case atStart => exact ⟨m, 0, rfl, by omega, rfl, rfl⟩
  case round =>
    obtain ⟨k, n2, rfl, hk, hcut, rfl⟩ := hrel
    have HCUT := Lib.hid hcut
    clear hcut
    by_cases hk0 : k = 0
    · have d0 : decide (0 < k) = false := by simp; omega
      have HCM : Hid (cut L2 m = k) := Lib.hid (by rw [← HCUT.out, hk0]; rfl)
      clear hk0
      go_wp2_with fail
      obtain ⟨o, ho⟩ : ∃ o, o = 4 + 4 * k := ⟨_, rfl⟩
      obtain ⟨q, hq⟩ : ∃ q, q = 4 + 4 * m := ⟨_, rfl⟩
      have ho1 : 4 + 4 * (k : Int) = (o : Int) := by omega
      have hq1 : 4 + 4 * (m : Int) = (q : Int) := by omega
      have hoq : (o : Int) ≤ (q : Int) := by omega
      have hoq' : o ≤ q := by omega
      have hq5 : (q : Int) ≤ 512 := by omega
      have ho5 : ¬ (512 = o) := by omega
      have w1 : IntKind.i64.wrap (4 * (k : Int)) = 4 * (k : Int) := IntWalk.i64_in _ (by omega)
      have w2' : IntKind.i64.wrap (o : Int) = (o : Int) := IntWalk.i64_in _ (by omega)
      have w3' : IntKind.i64.wrap (4 * (m : Int)) = 4 * (m : Int) := IntWalk.i64_in _ (by omega)
      have w4' : IntKind.i64.wrap (q : Int) = (q : Int) := IntWalk.i64_in _ (by omega)
      generalize hwv : w3.drewN _ = wv
      have HPV : Hid (Lies wv p f2) := Lib.hid (by rw [← hwv]; exact HP3.out)
      have HCV : Hid (Chg [p] w wv) := Lib.hid (by rw [← hwv]; exact HC13.out.drewN _)
      have HO := Lib.hid ho
      have HQ := Lib.hid hq
      have ho4 : 4 ≤ o := by omega
      clear hwv ho hq
      go_still_tail 11, (by kernel_rfl)
      still_call ((HC.out wv.drew (by exact HPV.out)).mono fun _ _ ⟨he, hw⟩ => ⟨he, hw.symm⟩)
      repeat still_step
      refine wpStill_nil ?_
      refine wpList_clear rfl (.tmp 39) 57 5 rfl Try.underlying57 zero5 p o (q - o) (512 - o) 134 512 f2 rfl HPV.out (by omega) ?_
      intro w5 hp5 hC5
      have HP5 := Lib.hid hp5
      have HC5 : Hid (Chg [p] w w5) := Lib.hid (HCV.out.trans (Chg.trans (b := wv.drew) (Chg.refl _ _).drew hC5))
      clear hp5 hC5
      go_wp2_with (first | (go_at_call 70; refine (start_cleared HD.out (by omega) _ (by exact HP5.out)).mono ?_; rintro e w' ⟨rfl, rfl⟩) | (go_at_call 64; refine (setp_any p _ k st _ (by omega) (by omega) hst0 hst1 (by exact HP5.out)).mono ?_; rintro e w6 ⟨rfl, hp6, hC6⟩; have HP6 := Lib.hid hp6; have HC6 := Lib.hid hC6; clear hp6 hC6))
      go_ret
      exact ⟨rfl, ⟨_, HP6.out, by unfold rem; rw [← HL2.out]; exact trimmed HD.out HM.out HCM.out HO.out HQ.out rfl⟩, HC5.out.trans HC6.out⟩
    · obtain ⟨j, hj⟩ : ∃ j, k = j + 1 := ⟨k - 1, by omega⟩
      rcases slot_cases L2 j with ⟨u, hu⟩ | hu | hu
      · have hbs := fun (w : World) (hp : Lies w p f2) => pbytes_used HD.out hp hu
        have HB2 := Lib.hid hbs
        have d0 : decide (0 < k) = true := by simp; omega
        have hjw : (k : Int) - 1 = (j : Int) := by omega
        have HCM : Hid (cut L2 m = k) := Lib.hid (by rw [← HCUT.out, hj]; exact cut_eq hu)
        clear hbs hu hk0 hj
        go_wp2_with (first | (go_at_call 73; refine (HB2.out _ (by exact HG3.out _)).mono ?_; rintro e w' ⟨rfl, n3, rfl⟩))
        obtain ⟨o, ho⟩ : ∃ o, o = 4 + 4 * k := ⟨_, rfl⟩
        obtain ⟨q, hq⟩ : ∃ q, q = 4 + 4 * m := ⟨_, rfl⟩
        have ho1 : 4 + 4 * (k : Int) = (o : Int) := by omega
        have hq1 : 4 + 4 * (m : Int) = (q : Int) := by omega
        have hoq : (o : Int) ≤ (q : Int) := by omega
        have hoq' : o ≤ q := by omega
        have hq5 : (q : Int) ≤ 512 := by omega
        have ho5 : ¬ (512 = o) := by omega
        have w1 : IntKind.i64.wrap (4 * (k : Int)) = 4 * (k : Int) := IntWalk.i64_in _ (by omega)
        have w2' : IntKind.i64.wrap (o : Int) = (o : Int) := IntWalk.i64_in _ (by omega)
        have w3' : IntKind.i64.wrap (4 * (m : Int)) = 4 * (m : Int) := IntWalk.i64_in _ (by omega)
        have w4' : IntKind.i64.wrap (q : Int) = (q : Int) := IntWalk.i64_in _ (by omega)
        generalize hwv : w3.drewN _ = wv
        have HPV : Hid (Lies wv p f2) := Lib.hid (by rw [← hwv]; exact HP3.out)
        have HCV : Hid (Chg [p] w wv) := Lib.hid (by rw [← hwv]; exact HC13.out.drewN _)
        have HO := Lib.hid ho
        have HQ := Lib.hid hq
        have ho4 : 4 ≤ o := by omega
        clear hwv ho hq
        go_still_tail 11, (by kernel_rfl)
        still_call ((HC.out wv.drew (by exact HPV.out)).mono fun _ _ ⟨he, hw⟩ => ⟨he, hw.symm⟩)
        repeat still_step
        refine wpStill_nil ?_
        refine wpList_clear rfl (.tmp 39) 57 5 rfl Try.underlying57 zero5 p o (q - o) (512 - o) 134 512 f2 rfl HPV.out (by omega) ?_
        intro w5 hp5 hC5
        have HP5 := Lib.hid hp5
        have HC5 : Hid (Chg [p] w w5) := Lib.hid (HCV.out.trans (Chg.trans (b := wv.drew) (Chg.refl _ _).drew hC5))
        clear hp5 hC5
        go_wp2_with (first | (go_at_call 70; refine (start_cleared HD.out (by omega) _ (by exact HP5.out)).mono ?_; rintro e w' ⟨rfl, rfl⟩) | (go_at_call 64; refine (setp_any p _ k st _ (by omega) (by omega) hst0 hst1 (by exact HP5.out)).mono ?_; rintro e w6 ⟨rfl, hp6, hC6⟩; have HP6 := Lib.hid hp6; have HC6 := Lib.hid hC6; clear hp6 hC6))
        go_ret
        exact ⟨rfl, ⟨_, HP6.out, by unfold rem; rw [← HL2.out]; exact trimmed HD.out HM.out HCM.out HO.out HQ.out rfl⟩, HC5.out.trans HC6.out⟩
      · have hbs := fun (w : World) (hp : Lies w p f2) => pbytes_free HD.out hp hu
        have HB2 := Lib.hid hbs
        subst hj
        have HCM : Hid (cut L2 j = cut L2 m) := Lib.hid (by rw [← HCUT.out]; exact (cut_none hu).symm)
        clear hbs hu
        go_wp2_with (first | (go_at_call 73; refine (HB2.out _ (by exact HG3.out _)).mono ?_; rintro e w' ⟨rfl, n3, rfl⟩))
        go_roundw
        case measure => simp [intOf]
        case rel => exact ⟨j, n2 + n3, by go_num, by omega, HCM.out, rfl⟩
      · have := HM.out; omega
end
end Go.Proofs.Yteokjaocnemmlaa
