/-
  The walk of lapidarylaw06.RoomMost: it returns true, and turns nothing that was there.
-/
import Derived.Test.YteokjaocnemmlaaAwake6
namespace Go.Proofs.Yteokjaocnemmlaa
open Go.RowKit

/-- The rooms after k rounds. -/
def ML (k : Nat) : List Int := (List.range k).map fun j : Nat => ((j : Int) % 7)
theorem ML_length (k : Nat) : (ML k).length = k := by simp [ML]
theorem ML_succ (k : Nat) : ML (k + 1) = ML k ++ [(k : Int) % 7] := by simp [ML, List.range_succ]
theorem ML_get (k j : Nat) (h : j < (ML k).length) : (ML k)[j] = (j : Int) % 7 := by simp [ML]

theorem most_set (b k : Nat) (w : World) (hk : k < 256) (hm : IsMap w b (ML k)) :
    Calls Try.prog 14 #[.pointer (some ⟨b, 0, none⟩), .int .i64 k, .int .i64 ((k : Int) % 7)] w fun e w' => e = .returned (.int .i64 0) ∧ IsMap w' b (ML (k + 1)) ∧ Chg [b] w w' := by
  have h1 : setCode (ML k) k = 0 := by unfold setCode; rw [ML_length, if_neg (by omega), if_neg (by omega)]
  have h2 : setNew (ML k) k ((k : Int) % 7) = ML (k + 1) := by
    unfold setNew setL
    rw [h1, if_pos rfl, if_pos (by rw [ML_length]; simp), ML_succ, clamp_mid (by omega) (by omega)]
  have := set_any b (ML k) k ((k : Int) % 7) w hm
  rwa [h1, h2] at this
theorem most_pages (b k : Nat) (w : World) (hm : IsMap w b (ML (k + 1))) : Calls Try.prog 15 #[.pointer (some ⟨b, 0, none⟩)] w fun e w' => e = .returned (.int .i64 ((k : Int) + 1)) ∧ w = w' := by
  have := pages_any b _ w hm
  rw [ML_length] at this
  exact this
/-- A page that there is is set. -/
theorem most_again (b k : Nat) (L : List Int) (room : Int) (w : World) (hl : L.length = 256) (hk : k < 256) (hm : IsMap w b L) :
    Calls Try.prog 14 #[.pointer (some ⟨b, 0, none⟩), .int .i64 k, .int .i64 room] w fun e w' => e = .returned (.int .i64 0) ∧ IsMap w' b (L.set k (clamp room)) ∧ Chg [b] w w' := by
  have h1 : setCode L k = 0 := by unfold setCode; rw [hl, if_neg (by omega), if_neg (by omega)]
  have h2 : setNew L k room = L.set k (clamp room) := by
    unfold setNew setL
    rw [h1, if_pos rfl, if_neg (by rw [hl]; simp; omega)]; simp
  have := set_any b L k room w hm
  rwa [h1, h2] at this
theorem most_find (b k : Nat) (w : World) (hk : k < 256) (hm : IsMap w b ((ML 256).set k 512)) : Calls Try.prog 16 #[.pointer (some ⟨b, 0, none⟩), .int .i64 512] w fun e w' => e = .returned (.tuple #[.int .i64 k, .bool true]) ∧ w = w' := by
  have hf : findAt ((ML 256).set k 512) 512 = some k := by
    unfold findAt
    rw [List.findIdx?_eq_some_iff_getElem]
    refine ⟨by simp [ML_length, hk], by simp; decide, fun j hj => ?_⟩
    rw [List.getElem_set_ne (by omega), ML_get]
    simp; omega
  have := find_any b _ 512 w hm
  unfold findPos findOk at this
  rw [hf] at this
  exact this
theorem most_over (b : Nat) (L : List Int) (w : World) (hm : IsMap w b L) : Calls Try.prog 16 #[.pointer (some ⟨b, 0, none⟩), .int .i64 513] w fun e w' => e = .returned (.tuple #[.int .i64 0, .bool false]) ∧ w = w' := by
  have hf : findAt L 513 = none := by
    obtain ⟨f, _, h⟩ := hm
    unfold findAt
    rw [List.findIdx?_eq_none_iff]
    intro x hx
    have := h.rng x hx
    simp; omega
  have := find_any b _ 513 w hm
  unfold findPos findOk at this
  rw [hf] at this
  exact this

set_option maxRecDepth 100000 in
set_option maxHeartbeats 2000000 in
theorem most_any (n : Nat) (room2 : Int) (w : World) (hn : n < 256) : Calls Try.prog 3 #[.int .u8 n, .int .i64 room2] w fun e w' => e = .returned (.bool true) ∧ Chg [] w w' := by
  go_enter Try.func3, Try.ntmps3
  go_wp2_with (first | (go_at_call 12; refine (awake6_any _).mono ?_; rintro e w0 ⟨rfl, hC0⟩) | (go_at_call 13; refine (new_any _).mono ?_; rintro e w1 ⟨rfl, rfl⟩))
  generalize hw1 : w0.alloc (ints .i64 97 513 (newf 512)) = w1
  have hm : IsMap w1 w0.heap.size (ML 0) := by rw [← hw1]; exact IsMap.new w0
  have hC : Chg [w0.heap.size] w w1 := by rw [← hw1]; exact (hC0.alloc _).mono (by simp)
  clear hw1
  have hle : w.heap.size ≤ w0.heap.size := hC0.size
  clear hC0
  obtain ⟨b, hb⟩ : ∃ b, b = w0.heap.size := ⟨_, rfl⟩
  rw [← hb] at hm hC hle ⊢
  clear hb
  go_loopw [13] (fun i wr => ∃ k : Nat, i = .int .i64 k ∧ k ≤ 256 ∧ IsMap wr b (ML k) ∧ Chg [b] w wr) (fun i _ => 256 - (intOf i).toNat)
  case atStart => exact ⟨0, rfl, by omega, hm, hC⟩
  case round =>
    obtain ⟨k, rfl, hk, hmr, hCr⟩ := hrel
    have HM := Lib.hid hmr
    have HC := Lib.hid hCr
    clear hm hC hmr hCr
    by_cases hlt : k < 256
    · go_wp2_with (first | (go_at_call 14; refine (most_set b k _ hlt HM.out).mono ?_; rintro e w3 ⟨rfl, hm3, hC3⟩; have HM3 := Lib.hid hm3; have HC3 := Lib.hid hC3; clear hm3 hC3) | (go_at_call 15; refine (most_pages b k _ HM3.out).mono ?_; rintro e w4 ⟨rfl, rfl⟩))
      go_roundw
      case measure => simp [intOf]; omega
      case rel => exact ⟨k + 1, by go_num, by omega, HM3.out, HC.out.trans HC3.out⟩
    · have : k = 256 := by omega
      subst this
      go_wp2_with fail
      refine (set_bad b _ _ _ (by omega)).mono ?_
      rintro e w3 ⟨rfl, rfl⟩
      go_wp2_with fail
      refine (set_bad b _ _ _ (by omega)).mono ?_
      rintro e w3 ⟨rfl, rfl⟩
      go_wp2_with fail
      refine (most_again b n _ _ _ (ML_length _) hn HM.out).mono ?_
      rintro e w3 ⟨rfl, hm3, hC3⟩
      have HM3 := Lib.hid hm3
      have HC3 := Lib.hid (HC.out.trans hC3)
      clear hm3 hC3
      go_wp2_with fail
      refine (most_find b n _ hn HM3.out).mono ?_
      rintro e w4 ⟨rfl, rfl⟩
      go_wp2_with fail
      refine (most_again b n _ _ _ (by simp [ML_length]) hn HM3.out).mono ?_
      rintro e w4 ⟨rfl, hm4, hC4⟩
      have HM4 := Lib.hid hm4
      have HC4 := Lib.hid (HC3.out.trans hC4)
      clear hm4 hC4
      go_wp2_with fail
      refine (most_over b _ _ HM4.out).mono ?_
      rintro e w5 ⟨rfl, rfl⟩
      go_wp2_with fail
      refine (new_any _).mono ?_
      rintro e w5 ⟨rfl, rfl⟩
      go_wp2_with fail
      refine (set_any w4.heap.size [] 1 5 _ (IsMap.new w4)).mono ?_
      rintro e w6 ⟨rfl, hm6, hC6⟩
      have hc : setCode [] 1 = 3 := rfl
      rw [hc]
      have HC6 := Lib.hid hC6
      clear hm6 hC6
      go_wp2
      go_ret
      have h4 := HC4.out
      have := h4.size
      refine ⟨rfl, ?_⟩
      have h6 := (h4.alloc _).trans' HC6.out (by simp; omega)
      exact ⟨h6.os, h6.tape, h6.output, h6.size, fun x hx _ => h6.block x hx (by simp; omega)⟩

end Go.Proofs.Yteokjaocnemmlaa
