/-
  The walks of package page, over the list of its slots: what only reads.
-/
import Derived.Test.YteokjaocnemmlaaPageP
namespace Go.Proofs.Yteokjaocnemmlaa
open Go.RowKit

/-- A page lies in block p: its bytes are f. -/
abbrev Lies (w : World) (p : Nat) (f : Nat → Int) : Prop := w.heap[p]? = some (ints .u8 134 512 f)

theorem pcount (p : Nat) {f : Nat → Int} {L : PL} {fr : Nat → Nat} {st : Nat} (h : PG f L fr st) (w : World) (hp : Lies w p f) :
    Calls Try.prog 69 #[.pointer (some ⟨p, 0, none⟩)] w fun e w' => e = .returned (.int .i64 L.length) ∧ w = w' := by
  have := count_any p f w h.bytes hp
  rw [show cntF f = u16 f 0 from rfl, h.cnt] at this
  exact this
theorem pstart (p : Nat) {f : Nat → Int} {L : PL} {fr : Nat → Nat} {st : Nat} (h : PG f L fr st) (w : World) (hp : Lies w p f) :
    Calls Try.prog 70 #[.pointer (some ⟨p, 0, none⟩)] w fun e w' => e = .returned (.int .i64 st) ∧ w = w' := by
  have := start_any p f w h.bytes hp
  rw [show staF f = u16 f 2 from rfl, h.sta] at this
  exact this

/-! ### bytesOf -/
theorem bytesOf_nil (s : Int) (w : World) : Calls Try.prog 73 #[.pointer none, .int .i64 s] w fun e w' => e = .returned (.slice none 0 0) ∧ w = w' := by
  go_enter Try.func73, Try.ntmps73
  go_wp2
  go_ret
  exact ⟨rfl, rfl⟩
theorem bytesOf_low (p : Nat) (s : Int) (w : World) (h : s < 0) : Calls Try.prog 73 #[.pointer (some ⟨p, 0, none⟩), .int .i64 s] w fun e w' => e = .returned (.slice none 0 0) ∧ w = w' := by
  go_enter Try.func73, Try.ntmps73
  go_wp2
  go_ret
  exact ⟨rfl, rfl⟩
theorem bytesOf_high (p m : Nat) (s : Int) (w : World) (h0 : 0 ≤ s) (h : (m : Int) ≤ s) (hc : Hid (Calls Try.prog 69 #[.pointer (some ⟨p, 0, none⟩)] w fun e w' => e = .returned (.int .i64 m) ∧ w = w')) :
    Calls Try.prog 73 #[.pointer (some ⟨p, 0, none⟩), .int .i64 s] w fun e w' => e = .returned (.slice none 0 0) ∧ w = w' := by
  go_enter Try.func73, Try.ntmps73
  go_wp2_with (first | (go_at_call 69; refine hc.out.mono ?_; rintro e w' ⟨rfl, rfl⟩))
  go_ret
  exact ⟨rfl, rfl⟩
theorem bytesOf_free (p m s : Nat) (a : Int) (w : World) (h : s < m) (hc : Hid (Calls Try.prog 69 #[.pointer (some ⟨p, 0, none⟩)] w fun e w' => e = .returned (.int .i64 m) ∧ w = w'))
    (ha : Hid (Calls Try.prog 82 #[.pointer (some ⟨p, 0, none⟩), .int .i64 s] w fun e w' => e = .returned (.tuple #[.int .i64 a, .int .i64 0]) ∧ ∃ n, w' = w.drewN n)) :
    Calls Try.prog 73 #[.pointer (some ⟨p, 0, none⟩), .int .i64 s] w fun e w' => e = .returned (.slice none 0 0) ∧ ∃ n, w' = w.drewN n := by
  have d1 : decide ((s : Int) < 0) = false := by simp
  have d2 : decide (m ≤ s) = false := by simp; omega
  go_enter Try.func73, Try.ntmps73
  go_wp2_with (first | (go_at_call 69; refine hc.out.mono ?_; rintro e w' ⟨rfl, rfl⟩) | (go_at_call 82; refine ha.out.mono ?_; rintro e w' ⟨rfl, n, rfl⟩))
  go_ret
  exact ⟨rfl, n, rfl⟩
set_option maxRecDepth 100000 in
set_option maxHeartbeats 1000000 in
theorem bytesOf_used (p m s a z : Nat) (w : World) (h : s < m) (hz : 0 < z) (haz : a + z ≤ 512) (hc : Hid (Calls Try.prog 69 #[.pointer (some ⟨p, 0, none⟩)] w fun e w' => e = .returned (.int .i64 m) ∧ w = w'))
    (ha : Hid (Calls Try.prog 82 #[.pointer (some ⟨p, 0, none⟩), .int .i64 s] w fun e w' => e = .returned (.tuple #[.int .i64 a, .int .i64 z]) ∧ ∃ n, w' = w.drewN n)) :
    Calls Try.prog 73 #[.pointer (some ⟨p, 0, none⟩), .int .i64 s] w fun e w' => e = .returned (.slice (some ⟨p, a, none⟩) z (512 - a)) ∧ ∃ n, w' = w.drewN n := by
  have d1 : decide ((s : Int) < 0) = false := by simp
  have d2 : decide (m ≤ s) = false := by simp; omega
  have d3 : ((z : Int) == 0) = false := by simp; omega
  have hne : ¬ (512 = a) := by omega
  have hb1 : (a : Int) ≤ (a : Int) + (z : Int) := by omega
  have hb2 : (a : Int) + (z : Int) ≤ 512 := by omega
  have hb3 : ((a : Int) + (z : Int)).toNat = a + z := by omega
  go_enter Try.func73, Try.ntmps73
  go_wp2_with (first | (go_at_call 69; refine hc.out.mono ?_; rintro e w' ⟨rfl, rfl⟩) | (go_at_call 82; refine ha.out.mono ?_; rintro e w' ⟨rfl, n, rfl⟩))
  go_ret
  refine ⟨?_, n, rfl⟩
  simp

section
variable {p : Nat} {f : Nat → Int} {L : PL} {fr : Nat → Nat} {st : Nat} {w : World}
theorem pbytes_used (h : PG f L fr st) (hp : Lies w p f) {s : Nat} {t : Tup} (hs : L[s]? = some (some t)) :
    Calls Try.prog 73 #[.pointer (some ⟨p, 0, none⟩), .int .i64 s] w fun e w' => e = .returned (.slice (some ⟨p, fr s, none⟩) t.size (512 - fr s)) ∧ ∃ n, w' = w.drewN n := by
  have hl := getElem?_lt hs
  have h1 := h.lo
  have h2 := h.hi
  have h3 := h.lies s t hs
  have ha := at_any p s f w (by omega) h.bytes hp
  rw [(h.ptr s t hs).1, (h.ptr s t hs).2] at ha
  have hz := t.size_lo
  exact bytesOf_used p L.length s (fr s) t.size w hl (by omega) h3.2 (Lib.hid (pcount p h w hp)) (Lib.hid ha)
theorem pbytes_free (h : PG f L fr st) (hp : Lies w p f) {s : Nat} (hs : L[s]? = some none) :
    Calls Try.prog 73 #[.pointer (some ⟨p, 0, none⟩), .int .i64 s] w fun e w' => e = .returned (.slice none 0 0) ∧ ∃ n, w' = w.drewN n := by
  have hl := getElem?_lt hs
  have h1 := h.lo
  have h2 := h.hi
  have ha := at_any p s f w (by omega) h.bytes hp
  rw [h.free s hs] at ha
  exact bytesOf_free p L.length s _ w hl (Lib.hid (pcount p h w hp)) (Lib.hid ha)
/-- Of a slot in which no version is, or of none. -/
theorem pbytes_none (h : PG f L fr st) (hp : Lies w p f) (s : Int) (hs : s < 0 ∨ ∀ t, L[s.toNat]? ≠ some (some t)) :
    Calls Try.prog 73 #[.pointer (some ⟨p, 0, none⟩), .int .i64 s] w fun e w' => e = .returned (.slice none 0 0) ∧ ∃ n, w' = w.drewN n := by
  by_cases h0 : s < 0
  · exact (bytesOf_low p s w h0).mono fun _ _ ⟨he, hw⟩ => ⟨he, 0, hw.symm⟩
  · obtain ⟨k, rfl⟩ := Int.eq_ofNat_of_zero_le (show 0 ≤ s by omega)
    rcases slot_cases L k with ⟨t, ht⟩ | ht | ht
    · rcases hs with hs | hs
      · omega
      · exact absurd ht (by simpa using hs t)
    · exact pbytes_free h hp ht
    · exact (bytesOf_high p L.length k w (by omega) (by omega) (Lib.hid (pcount p h w hp))).mono fun _ _ ⟨he, hw⟩ => ⟨he, 0, hw.symm⟩
end

/-- The slice that a slot's bytes are. -/
def slotV (p : Nat) (fr : Nat → Nat) (L : PL) (s : Nat) : Value := match L[s]? with
  | some (some t) => .slice (some ⟨p, fr s, none⟩) t.size (512 - fr s)
  | _ => .slice none 0 0

/-! ### free -/
set_option maxRecDepth 100000 in
set_option maxHeartbeats 1000000 in
theorem pfree {p : Nat} {f : Nat → Int} {L : PL} {fr : Nat → Nat} {st : Nat} {w : World} (h : PG f L fr st) (hp : Lies w p f) :
    Calls Try.prog 67 #[.pointer (some ⟨p, 0, none⟩)] w fun e w' => e = .returned (.int .i64 (freeSlot L)) ∧ ∃ n, w' = w.drewN n := by
  have eq0 := @Lib.run_eql_slice_nil Try.prog
  obtain ⟨m, hm⟩ : ∃ m, m = L.length := ⟨_, rfl⟩
  have hcnt := fun (w : World) (hp : Lies w p f) => pcount p h w hp
  rw [← hm] at hcnt
  have HM := Lib.hid hm
  have HC := Lib.hid hcnt
  have HP := Lib.hid hp
  have hm5 : m ≤ 512 := by have := h.lo; have := h.hi; omega
  clear hm hcnt hp
  go_enter Try.func67, Try.ntmps67
  go_wp2_with (first | (go_at_call 69; refine (HC.out _ (by exact HP.out)).mono ?_; rintro e w' ⟨rfl, rfl⟩))
  go_loopw [6] (fun i wr => ∃ (k n : Nat), i = .int .i64 k ∧ k ≤ m ∧ k ≤ freeSlot L ∧ wr = w.drewN n) (fun i _ => m - (intOf i).toNat)
  case atStart => exact ⟨0, 0, rfl, by omega, by omega, rfl⟩
  case round =>
    obtain ⟨k, n, rfl, hk, hkf, rfl⟩ := hrel
    by_cases hlt : k < m
    · rcases slot_cases L k with ⟨t, ht⟩ | ht | ht
      · have hbs := fun (w : World) (hp : Lies w p f) => pbytes_used h hp ht
        have HB := Lib.hid hbs
        have hkf' : k < freeSlot L := by
          rcases Nat.lt_or_eq_of_le hkf with h1 | h1
          · exact h1
          · exfalso
            have hkl := getElem?_lt ht
            rw [h1] at hkl ht
            rw [freeSlot_lt hkl] at ht
            cases ht
        clear hbs ht
        go_wp2_with (first | (go_at_call 73; refine (HB.out _ (by exact HP.out)).mono ?_; rintro e w' ⟨rfl, n2, rfl⟩))
        go_roundw
        case measure => simp [intOf]; omega
        case rel => exact ⟨k + 1, n + n2, by go_num, by omega, by omega, rfl⟩
      · have hbs := fun (w : World) (hp : Lies w p f) => pbytes_free h hp ht
        have HB := Lib.hid hbs
        have hkf' : k = freeSlot L := by
          rcases Nat.lt_or_eq_of_le hkf with h1 | h1
          · obtain ⟨t, h2⟩ := freeSlot_before h1
            rw [ht] at h2; cases h2
          · exact h1
        have HK := Lib.hid hkf'
        clear hbs ht hkf'
        go_wp2_with (first | (go_at_call 73; refine (HB.out _ (by exact HP.out)).mono ?_; rintro e w' ⟨rfl, n2, rfl⟩))
        go_ret
        exact ⟨by rw [← HK.out]; rfl, _, rfl⟩
      · have := HM.out; omega
    · have hke : k = m := by omega
      have hff : freeSlot L = m := by have := freeSlot_le L; have := HM.out; omega
      have HF := Lib.hid hff
      clear hke hff
      go_wp2_with (first | (go_at_call 69; refine (HC.out _ (by exact HP.out)).mono ?_; rintro e w' ⟨rfl, rfl⟩))
      go_ret
      exact ⟨by rw [HF.out]; rfl, _, rfl⟩

end Go.Proofs.Yteokjaocnemmlaa
