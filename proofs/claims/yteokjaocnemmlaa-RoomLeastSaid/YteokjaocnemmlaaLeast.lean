/-
  The walk of lapidarylaw06.RoomLeast: it returns true, and turns nothing that was there.
-/
import Derived.Test.YteokjaocnemmlaaAwake6
namespace Go.Proofs.Yteokjaocnemmlaa
open Go.RowKit

/-- A room that is set: the law's own number, clamped. -/
def LV (z : Nat → Int) (j : Nat) : Int := clamp (z j % 600)
def LL (z : Nat → Int) (k : Nat) : List Int := (List.range k).map (LV z)
theorem LL_length (z : Nat → Int) (k : Nat) : (LL z k).length = k := by simp [LL]
theorem LL_succ (z : Nat → Int) (k : Nat) : LL z (k + 1) = LL z k ++ [LV z k] := by simp [LL, List.range_succ]
theorem LL_get (z : Nat → Int) (k j : Nat) (h : j < (LL z k).length) : (LL z k)[j] = LV z j := by simp [LL]
theorem LV_nonneg (z : Nat → Int) (j : Nat) : 0 ≤ LV z j := by unfold LV clamp; omega

theorem least_set (b k : Nat) (z : Nat → Int) (w : World) (hk : k < 256) (hm : IsMap w b (LL z k)) :
    Calls Try.prog 14 #[.pointer (some ⟨b, 0, none⟩), .int .i64 k, .int .i64 (z k % 600)] w fun e w' => e = .returned (.int .i64 0) ∧ IsMap w' b (LL z (k + 1)) ∧ Chg [b] w w' := by
  have h1 : setCode (LL z k) k = 0 := by unfold setCode; rw [LL_length, if_neg (by omega), if_neg (by omega)]
  have h2 : setNew (LL z k) k (z k % 600) = LL z (k + 1) := by
    unfold setNew setL
    rw [h1, if_pos rfl, if_pos (by rw [LL_length]; simp), LL_succ]; rfl
  have := set_any b (LL z k) k (z k % 600) w hm
  rwa [h1, h2] at this
theorem least_get (b m k : Nat) (z : Nat → Int) (w : World) (hk : k < m) (hm : IsMap w b (LL z m)) :
    Calls Try.prog 19 #[.pointer (some ⟨b, 0, none⟩), .int .i64 k] w fun e w' => e = .returned (.int .i64 (LV z k)) ∧ w = w' := by
  have := get_any b _ k w hm
  unfold getAt at this
  rwa [LL_length, if_pos (by omega), Int.toNat_natCast, getD_lt (by rw [LL_length]; exact hk), LL_get] at this
theorem least_pages (b m : Nat) (z : Nat → Int) (w : World) (hm : IsMap w b (LL z m)) : Calls Try.prog 15 #[.pointer (some ⟨b, 0, none⟩)] w fun e w' => e = .returned (.int .i64 m) ∧ w = w' := by
  have := pages_any b _ w hm
  rwa [LL_length] at this
theorem least_yes (b m : Nat) (z : Nat → Int) (need : Int) (w : World) (hm : IsMap w b (LL z m)) (h : findOk (LL z m) need = true) :
    ∃ p : Nat, p < m ∧ need ≤ LV z p ∧ (∀ i, i < p → LV z i < need) ∧ Calls Try.prog 16 #[.pointer (some ⟨b, 0, none⟩), .int .i64 need] w fun e w' => e = .returned (.tuple #[.int .i64 p, .bool true]) ∧ w = w' := by
  have hf := find_any b _ need w hm
  rw [h] at hf
  unfold findOk at h
  obtain ⟨p, hp⟩ := Option.isSome_iff_exists.1 h
  unfold findPos at hf
  rw [hp] at hf
  unfold findAt at hp
  rw [List.findIdx?_eq_some_iff_getElem] at hp
  obtain ⟨h1, h2, h3⟩ := hp
  rw [LL_get] at h2
  rw [LL_length] at h1
  refine ⟨p, h1, by simp at h2; omega, fun i hi => ?_, hf⟩
  have := h3 i hi
  rw [LL_get] at this
  have h0 := LV_nonneg z i
  simp at this; omega
theorem least_no (b m : Nat) (z : Nat → Int) (need : Int) (w : World) (hm : IsMap w b (LL z m)) (h : findOk (LL z m) need = false) :
    (∀ i, i < m → LV z i < need) ∧ Calls Try.prog 16 #[.pointer (some ⟨b, 0, none⟩), .int .i64 need] w fun e w' => e = .returned (.tuple #[.int .i64 0, .bool false]) ∧ w = w' := by
  have hf := find_any b _ need w hm
  rw [h] at hf
  unfold findOk at h
  have hp : findAt (LL z m) need = none := by cases hh : findAt (LL z m) need <;> simp_all
  unfold findPos at hf
  rw [hp] at hf
  refine ⟨fun i hi => ?_, hf⟩
  unfold findAt at hp
  rw [List.findIdx?_eq_none_iff] at hp
  have := hp (LV z i) (by rw [← LL_get z m i (by rw [LL_length]; exact hi)]; exact List.getElem_mem _)
  have h0 := LV_nonneg z i
  simp at this; omega

/-- A slice of integers that came in: its elements alone. -/
def InInts (k : IntKind) (w : World) (A : Option Addr) (n : Nat) (z : Nat → Int) : Prop := 0 < n → ∃ b off, A = some ⟨b, off, none⟩ ∧ ∀ j, j < n → w.cell? ⟨b, off + j, none⟩ = some (.int k (z j))

set_option maxRecDepth 100000 in
set_option maxHeartbeats 2000000 in
theorem least_any (A : Option Addr) (n cap : Nat) (z : Nat → Int) (need : Int) (w : World) (hn : n ≤ cap) (hcap : cap ≤ maxLen) (hz : InInts .u16 w A n z) (hz2 : ∀ j, j < n → 0 ≤ z j ∧ z j ≤ 65535) :
    Calls Try.prog 5 #[.slice A n cap, .int .i64 need] w fun e w' => e = .returned (.bool true) ∧ Chg [] w w' := by
  unfold maxLen at hcap
  obtain ⟨m, hm⟩ : ∃ m : Nat, m = min n 256 := ⟨_, rfl⟩
  have hmn : m ≤ n := by omega
  have hm2 : m ≤ 256 := by omega
  have hmi : min (n : Int) 256 = (m : Int) := by omega
  clear hm
  go_enter Try.func5, Try.ntmps5
  go_wp2_with (first | (go_at_call 12; refine (awake6_any _).mono ?_; rintro e w0 ⟨rfl, hC0⟩) | (go_at_call 13; refine (new_any _).mono ?_; rintro e w1 ⟨rfl, rfl⟩))
  clear hmi
  generalize hw1 : w0.alloc (ints .i64 97 513 (newf 512)) = w1
  have hmp : IsMap w1 w0.heap.size (LL z 0) := by rw [← hw1]; exact IsMap.new w0
  have hC : Chg [w0.heap.size] w w1 := by rw [← hw1]; exact (hC0.alloc _).mono (by simp)
  clear hw1
  have hle : w.heap.size ≤ w0.heap.size := hC0.size
  clear hC0
  obtain ⟨b, hb⟩ : ∃ b, b = w0.heap.size := ⟨_, rfl⟩
  rw [← hb] at hmp hC hle ⊢
  clear hb
  go_loopw [21] (fun i wr => ∃ k : Nat, i = .int .i64 k ∧ k ≤ m ∧ IsMap wr b (LL z k) ∧ Chg [b] w wr) (fun i _ => m - (intOf i).toNat)
  case atStart => exact ⟨0, rfl, by omega, hmp, hC⟩
  case round =>
    obtain ⟨k, rfl, hk, hmr, hCr⟩ := hrel
    have HM := Lib.hid hmr
    have HC := Lib.hid hCr
    clear hmp hC hmr hCr
    by_cases hlt : k < m
    · obtain ⟨g, off, rfl, hcz⟩ := hz (by omega)
      have hck := hcz k (by omega)
      have hcr : wr.cell? ⟨g, off + k, none⟩ = some (.int .u16 (z k)) := HC.out.cell hck (by have := World.block_lt_of_cell? _ _ hck; simp at this ⊢; omega)
      have hzk := hz2 k (by omega)
      have HZ := Lib.hid hz2
      clear hck hcz hz2 hz
      have hz1 := hzk.1
      have hz3 := hzk.2
      clear hzk
      go_wp2_with (first | (go_at_call 14; refine (least_set b k z _ (by omega) HM.out).mono ?_; rintro e w3 ⟨rfl, hm3, hC3⟩; have HM3 := Lib.hid hm3; have HC3 := Lib.hid hC3; clear hm3 hC3))
      go_roundw
      case measure => simp [intOf]; omega
      case rel => exact ⟨k + 1, by go_num, by omega, HM3.out, HC.out.trans HC3.out⟩
    · have : k = m := by omega
      subst this
      have fin : Chg [] w wr := ⟨HC.out.os, HC.out.tape, HC.out.output, HC.out.size, fun x hx _ => HC.out.block x hx (by simp; omega)⟩
      have FIN := Lib.hid fin
      clear hz2 hz fin
      by_cases hok : findOk (LL z k) need = true
      · obtain ⟨p, hp, hneed, hlow, hfind⟩ := least_yes b k z need wr HM.out hok
        have HF := Lib.hid hfind
        have HLO := Lib.hid hlow
        clear hfind hlow hok
        go_wp2_with (first | (go_at_call 16; refine HF.out.mono ?_; rintro e w3 ⟨rfl, rfl⟩))
        go_loop [45] (fun i => ∃ j : Nat, i = .int .i64 j ∧ j ≤ p) (fun i => p - (intOf i).toNat)
        case atStart => exact ⟨0, rfl, by omega⟩
        case round =>
          obtain ⟨j, rfl, hj⟩ := hrel
          by_cases hjp : j < p
          · have d : decide (need ≤ LV z j) = false := by have := HLO.out j hjp; simp; omega
            go_wp2_with (first | (go_at_call 19; refine (least_get b k j z _ (by omega) HM.out).mono ?_; rintro e w3 ⟨rfl, rfl⟩))
            go_round
            case measure => simp [intOf]; omega
            case rel => exact ⟨j + 1, by go_num, by omega⟩
          · have : j = p := by omega
            subst this
            have d : decide (need ≤ LV z j) = true := by simpa using hneed
            go_wp2_with (first | (go_at_call 15; refine (least_pages b k z _ HM.out).mono ?_; rintro e w3 ⟨rfl, rfl⟩) | (go_at_call 19; refine (least_get b k j z _ (by omega) HM.out).mono ?_; rintro e w3 ⟨rfl, rfl⟩))
            go_ret
            exact ⟨rfl, FIN.out⟩
      · have hok' : findOk (LL z k) need = false := by simpa using hok
        obtain ⟨hlow, hfind⟩ := least_no b k z need wr HM.out hok'
        have HF := Lib.hid hfind
        have HLO := Lib.hid hlow
        clear hfind hlow hok hok'
        go_wp2_with (first | (go_at_call 16; refine HF.out.mono ?_; rintro e w3 ⟨rfl, rfl⟩))
        go_loop [45] (fun i => ∃ j : Nat, i = .int .i64 j ∧ j ≤ k) (fun i => k - (intOf i).toNat)
        case atStart => exact ⟨0, rfl, by omega⟩
        case round =>
          obtain ⟨j, rfl, hj⟩ := hrel
          by_cases hjp : j < k
          · have d : decide (need ≤ LV z j) = false := by have := HLO.out j hjp; simp; omega
            go_wp2_with (first | (go_at_call 19; refine (least_get b k j z _ (by omega) HM.out).mono ?_; rintro e w3 ⟨rfl, rfl⟩))
            go_round
            case measure => simp [intOf]; omega
            case rel => exact ⟨j + 1, by go_num, by omega⟩
          · go_wp2_with (first | (go_at_call 15; refine (least_pages b k z _ HM.out).mono ?_; rintro e w3 ⟨rfl, rfl⟩))
            go_ret
            exact ⟨rfl, FIN.out⟩

end Go.Proofs.Yteokjaocnemmlaa
