/-
  The walks of package page: move.
-/
import Derived.Test.YteokjaocnemmlaaPage8
namespace Go.Proofs.Yteokjaocnemmlaa
open Go.RowKit

theorem size134 (f : Nat → Int) : (Try.prog.info? 134).map (·.size) = some (row .u8 512 f).size := by rw [row_size]; kernel_rfl
theorem row_one (k : IntKind) (n : Nat) (f : Nat → Int) : (row k n f).all (·.oneCell') = true := by
  rw [Array.all_eq_true_iff_forall_mem]
  intro v hv
  simp only [row, List.mem_toArray, List.mem_map] at hv
  obtain ⟨_, _, rfl⟩ := hv
  rfl

theorem size5 : (Try.prog.info? 5).map (·.size) = some 1 := by kernel_rfl
theorem src_of {w : World} {q : Nat} {f : Nat → Int} {L : PL} {fr : Nat → Nat} {st s : Nat} {t : Tup} (h : PG f L fr st) (hq : Lies w q f) (hs : L[s]? = some (some t)) : ∀ j v, ((packL t).map (Value.int .u8))[j]? = some v → w.cell? ((⟨q, fr s, none⟩ : Addr).add j) = some v := by
  intro j v hv
  rw [Go.WideShapes.add_plain]
  exact bvals_at hq (h.lies s t hs).2 (packL_length t) (fun i hi => by rw [packL_getD]; exact h.data s t hs i hi) j v hv

set_option maxRecDepth 100000 in
set_option maxHeartbeats 4000000 in
theorem pmove {p : Nat} {f : Nat → Int} {L : PL} {fr : Nat → Nat} {st : Nat} {w : World} (h : PG f L fr st) (hp : Lies w p f) (hm5 : 4 + 4 * L.length ≤ 482) :
    Calls Try.prog 71 #[.pointer (some ⟨p, 0, none⟩)] w fun e w' => e = .returned (.tuple #[]) ∧ (∃ f', Lies w' p f' ∧ PG f' L (movedAt L) (512 - total L)) ∧ Chg [p] w w' := by
  have eq0 := @Lib.run_eql_slice_nil Try.prog
  obtain ⟨m, hm⟩ : ∃ m, m = L.length := ⟨_, rfl⟩
  have hcnt := fun (w : World) (q : Nat) (hp : Lies w q f) => pcount q h w hp
  have hplt := lt_of_heap hp
  rw [← hm] at hcnt
  have HM := Lib.hid hm
  have HG := Lib.hid h
  have HC := Lib.hid hcnt
  have HP := Lib.hid hp
  clear h hcnt hp
  go_enter Try.func71, Try.ntmps71
  go_wp2_with (first | (refine wpList_load_row rfl 134 (.tmp 7) rfl p rfl 134 (row .u8 512 f) (0, 0) _ HP.out Try.underlying134 rfl (size134 f) ?_) | (refine wpList_store_row rfl 134 (.tmp 2) (.tmp 8) rfl w.heap.size (row .u8 512 f) rfl rfl 134 (row .u8 512 (fun _ => 0)) (by first | exact heap_alloc_new w _ | (rw [zero134]; exact heap_alloc_new w _)) (size134 f) (by rw [row_size, row_size]) (row_one _ _ _) ?_))
  generalize hwa : World.setRow _ _ _ = wa
  have hgo : w.heap.size ≠ p := by omega
  have HOa : Hid (Lies wa w.heap.size f) := Lib.hid (by rw [← hwa]; exact setRow_ints (f := fun _ => 0) (by first | exact heap_alloc_new w _ | (rw [zero134]; exact heap_alloc_new w _)) f)
  have HCa : Hid (Chg [] w wa) := Lib.hid (by rw [← hwa]; exact ((Chg.refl [] w).alloc _).setRow (.inr (Nat.le_refl _)) _)
  have HPa : Hid (Lies wa p f) := Lib.hid (HCa.out.heap HP.out (by simp))
  have hsz : w.heap.size < wa.heap.size := lt_of_heap HOa.out
  clear hwa
  obtain ⟨o, ho⟩ : ∃ o, o = 4 + 4 * m := ⟨_, rfl⟩
  have ho1 : 4 + 4 * (m : Int) = (o : Int) := by omega
  have ho5 : ¬ (512 = o) := by omega
  have ho6 : (o : Int) ≤ 512 := by omega
  have w1 : IntKind.i64.wrap (4 * (m : Int)) = 4 * (m : Int) := IntWalk.i64_in _ (by omega)
  have w2' : IntKind.i64.wrap (o : Int) = (o : Int) := IntWalk.i64_in _ (by omega)
  have ho512 : o ≤ 512 := by omega
  have hm512 : m ≤ 512 := by omega
  have HO := Lib.hid ho
  clear ho hm hm5
  go_still_tail 8, (by kernel_rfl)
  still_call ((HC.out wa.drew p (by exact HPa.out)).mono fun _ _ ⟨he, hw⟩ => ⟨he, hw.symm⟩)
  repeat still_step
  refine wpStill_nil ?_
  refine wpList_clear rfl (.tmp 16) 57 5 rfl Try.underlying57 zero5 p o (512 - o) (512 - o) 134 512 f rfl HPa.out (by omega) ?_
  intro w5 hp5 hC5
  have HP5 := Lib.hid hp5
  have HO5 : Hid (Lies w5 w.heap.size f) := Lib.hid (hC5.heap (k := w.heap.size) (by exact HOa.out) (by simp; omega))
  have HC5 : Hid (Chg [p] w w5) := Lib.hid ((HCa.out.mono (by simp)).trans (Chg.trans (b := wa.drew) (Chg.refl _ _).drew hC5))
  have HS5 : Hid (Mv f L 0 (splice f o (512 - o) (fun _ => 0))) := Lib.hid (by rw [HO.out, HM.out]; exact Mv.start HG.out)
  clear hp5 hC5 ho1 ho5 ho6 w1 w2'
  go_wp2_with (first | (go_at_call 69; refine (HC.out _ _ (by exact HO5.out)).mono ?_; rintro e w' ⟨rfl, rfl⟩))
  go_loopw [3, 18] (fun v i wr => ∃ (k a : Nat) (g : Nat → Int), i = .int .i64 k ∧ k ≤ m ∧ v = .int .i64 a ∧ a = 512 - total (L.take k) ∧ Lies wr w.heap.size f ∧ Lies wr p g ∧ Mv f L k g ∧ Chg [p] w wr) (fun _ i _ => m - (intOf i).toNat)
  case atStart => exact ⟨0, 512, _, rfl, by omega, rfl, rfl, HO5.out, HP5.out, HS5.out, HC5.out⟩
  case round =>
    obtain ⟨k, a, g, rfl, hk, rfl, ha, hor, hpr, hmv, hCr⟩ := hrel
    have HOR := Lib.hid hor
    have HPR := Lib.hid hpr
    have HMV := Lib.hid hmv
    have HCR := Lib.hid hCr
    have HA := Lib.hid ha
    clear hor hpr hmv hCr ha
    by_cases hlt : k < m
    · rcases slot_cases L k with ⟨t, ht⟩ | ht | ht
      · have hbs := fun (w : World) (q : Nat) (hp : Lies w q f) => pbytes_used HG.out hp ht
        have hlies := HG.out.lies k t ht
        have hst := HG.out.lo
        have hok := HG.out.ok k t ht
        have htot := total_slot ht
        have htle := total_take_le L (k + 1)
        have hfit := HG.out.fits
        have hz := t.size_lo
        have hzh := Tup.size_hi hok
        have hsrc := src_of HG.out HOR.out ht
        simp only [slotSize] at htot
        obtain ⟨z, hzz⟩ : ∃ z, z = t.size := ⟨_, rfl⟩
        obtain ⟨b, hb⟩ : ∃ b, b = a - z := ⟨_, rfl⟩
        have haz : (a : Int) - (z : Int) = (b : Int) := by have := HA.out; omega
        have hbz : b + z ≤ 512 := by have := HA.out; omega
        have hba : b + z = a := by have := HA.out; omega
        have hb5 : (b : Int) ≤ 512 := by omega
        have hb6 : ¬ (512 = b) := by omega
        have hzb : z ≤ 512 - b := by omega
        have hk4 : 4 + 4 * k + 4 ≤ 512 := by have := HM.out; omega
        have hz16 : 0 ≤ (z : Int) ∧ (z : Int) ≤ 65535 := by omega
        have hb16 : 0 ≤ (b : Int) ∧ (b : Int) ≤ 65535 := by omega
        have hlen : (packL t).length = z := by rw [packL_length, hzz]
        have hz0 : 0 < z := by omega
        have hstep : Hid (Mv f L (k + 1) (stepF g b k t)) := Lib.hid (HMV.out.step ht hok hfit (by rw [← HA.out]; omega))
        have hnext : Hid (b = 512 - total (L.take (k + 1))) := Lib.hid (by rw [htot, ← hzz]; have := HA.out; omega)
        have hsf : Hid (stepF g b k t = pointF (splice g b z (fun i => (packL t).getD i 0)) k b z) := Lib.hid (by rw [hzz]; rfl)
        rw [← hzz] at hbs
        have HB := Lib.hid hbs
        have HSRC := Lib.hid hsrc
        have HLEN := Lib.hid hlen
        clear hbs ht hlies hst hok htot htle hfit hz hzh hsrc hzz hb hlen hba
        go_wp2_with (first | (go_at_call 73; refine (HB.out _ _ (by exact HOR.out)).mono ?_; rintro e w' ⟨rfl, n2, rfl⟩) | (refine wpList_copyb rfl (.tmp 33) (.tmp 34) 57 57 rfl 5 Try.underlying57 size5 p b (512 - b) (512 - b) 134 512 ⟨w.heap.size, fr k, none⟩ z (512 - fr k) g (packL t) rfl rfl HLEN.out hzb (by exact HPR.out) hbz (by exact HSRC.out) ?_; intro w6 hp6 hC6; have HP6 := Lib.hid hp6; have HC6 := Lib.hid hC6; clear hp6 hC6) | (go_at_call 72; refine (point_any p k _ b z _ hk4 hb16 hz16 (by exact HP6.out)).mono ?_; rintro e w7 ⟨rfl, hp7, hC7⟩; have HP7 := Lib.hid hp7; have HC7 : Hid (Chg [p] wr w7) := Lib.hid ((((Chg.refl _ wr).drewN n2).trans HC6.out).trans hC7); clear hp7 hC7))
        go_roundw
        case measure => simp [intOf]; omega
        case rel => exact ⟨k + 1, b, stepF g b k t, by go_num, by omega, rfl, hnext.out, HC7.out.heap (by exact HOR.out) (by simp; omega), by rw [hsf.out]; exact HP7.out, hstep.out, HCR.out.trans HC7.out⟩
      · have hbs := fun (w : World) (q : Nat) (hp : Lies w q f) => pbytes_free HG.out hp ht
        have HB := Lib.hid hbs
        have HT := Lib.hid ht
        have HTT := Lib.hid (total_slot ht)
        clear hbs ht
        go_wp2_with (first | (go_at_call 73; refine (HB.out _ _ (by exact HOR.out)).mono ?_; rintro e w' ⟨rfl, n2, rfl⟩))
        go_roundw
        case measure => simp [intOf]; omega
        case rel => exact ⟨k + 1, a, g, by go_num, by omega, rfl, by rw [HA.out, HTT.out]; rfl, HOR.out, HPR.out, HMV.out.skip HT.out, HCR.out.drewN _⟩
      · have := HM.out; omega
    · have hke : k = m := by omega
      have hcg := count_any p g wr HMV.out.bytes HPR.out
      rw [show cntF g = (m : Int) by unfold cntF; rw [HMV.out.head 0 (by omega), HMV.out.head 1 (by omega)]; have := HG.out.cnt; unfold u16 at this; rw [this, HM.out]] at hcg
      have HCG := Lib.hid hcg
      have ha0 : 0 ≤ (a : Int) := by omega
      have ha1 : (a : Int) ≤ 65535 := by have := HA.out; omega
      have hm0 : 0 ≤ (m : Int) := by omega
      have hm1 : (m : Int) ≤ 65535 := by omega
      have HKE := Lib.hid hke
      clear hcg hke
      go_wp2_with (first | (go_at_call 69; refine (HCG.out).mono ?_; rintro e w' ⟨rfl, rfl⟩) | (go_at_call 64; refine (setp_any p g m a _ hm0 hm1 ha0 ha1 (by exact HPR.out)).mono ?_; rintro e w6 ⟨rfl, hp6, hC6⟩; have HP6 := Lib.hid hp6; have HC6 := Lib.hid hC6; clear hp6 hC6))
      go_end0
      refine ⟨rfl, ⟨_, HP6.out, ?_⟩, HCR.out.trans HC6.out⟩
      have hmv := HMV.out
      have ha := HA.out
      rw [HKE.out, HM.out] at hmv ha
      rw [List.take_length] at ha
      rw [HM.out, ha]
      exact HG.out.moved hmv
end Go.Proofs.Yteokjaocnemmlaa
