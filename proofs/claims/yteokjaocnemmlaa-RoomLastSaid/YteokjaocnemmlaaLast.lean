/-
  The walk of lapidarylaw06.RoomLast: it returns true, and turns nothing that was there.
-/
import Derived.Test.YteokjaocnemmlaaPlays
import Derived.Maps.RangeWalk
import Derived.Maps.OwnSet
import Derived.Maps.OwnOps
namespace Go.Proofs.Yteokjaocnemmlaa
open Go.RowKit

theorem law3 : Maps.Keyed Try.prog 3 := Maps.int_keyed Try.underlying3

abbrev MD := DataW Unit
/-- The law's own map reads as the list of rooms. -/
structure Tells (D : MD) (L : List Int) : Prop where
  tidy : Maps.Tidy D
  has : ∀ x : Int, Maps.has D (.int .i64 x) = decide (0 ≤ x ∧ x < L.length)
  at_ : ∀ n : Nat, n < L.length → ∀ z, D.atKey (.int .i64 n) z = .lit (.int .i64 (L.getD n (-1)))
  size : Maps.size D = L.length

theorem keyLit (x : Int) : WideAt.IsKeyLit (.int .i64 x) := trivial
theorem Tells.start : Tells (.map []) [] := ⟨Maps.tidy_empty, fun x => by simp [Maps.has], fun n h => by simp at h, rfl⟩
theorem Tells.put {D : MD} {L : List Int} (h : Tells D L) (n : Nat) (room : Int) (hn : n ≤ L.length) : Tells (D.put (.int .i64 n) (.lit (.int .i64 (clamp room)))) (setL L n room) := by
  have hlen := setL_length L n room hn
  refine ⟨h.tidy.put (keyLit _) _, fun x => ?_, fun m hm z => ?_, ?_⟩
  · by_cases hx : x = n
    · subst hx
      rw [Maps.has_put_same h.tidy.isMap (keyLit _), hlen]
      simp; omega
    · rw [Maps.has_put_other (by intro e; injection e with _ e; exact hx e), h.has, hlen]
      by_cases h1 : 0 ≤ x ∧ x < L.length
      · rw [decide_eq_true h1, decide_eq_true (by omega)]
      · rw [decide_eq_false h1, decide_eq_false (by omega)]
  · rw [setL_getD L n room hn]
    by_cases hmn : m = n
    · subst hmn
      rw [Maps.atKey_put_same h.tidy.isMap (keyLit _), if_pos rfl]
    · rw [Maps.atKey_put_other (by intro e; injection e with _ e; omega), if_neg hmn]
      exact h.at_ m (by omega) z
  · rw [Maps.size_put h.tidy, h.has, hlen, h.size]
    by_cases h1 : n < L.length
    · rw [if_pos (by simp; omega)]; omega
    · rw [if_neg (by simp; omega)]; omega
/-- An entry that comes up is a page's room. -/
theorem Tells.entry {D : MD} {L : List Int} (h : Tells D L) {x c : Int} (hat : ∀ zd, D.atKey (.int .i64 x) zd = .lit (.int .i64 c)) : getAt L x = c := by
  have h1 := Maps.has_true_of_atKey hat
  rw [h.has] at h1
  have h2 := of_decide_eq_true h1
  obtain ⟨n, rfl⟩ := Int.eq_ofNat_of_zero_le h2.1
  have h3 := h.at_ n (by omega) .nil
  rw [hat] at h3
  injection h3 with h3
  injection h3 with _ h3
  unfold getAt
  rw [if_pos h2, h3]; simp

theorem Chg.grown {b : Nat} {w w' : World} (h : Chg [b] w w') : w.grownBy w' (some b) := ⟨h.os, h.tape, h.output, h.size, fun k hk hne => h.block k hk (by simp; intro e; exact hne (by rw [e]))⟩

theorem wf64 {x : Int} (h : -1 ≤ x ∧ x ≤ 512) : (Lit.int .i64 x).wf = true := WalkArith.wf_i64 (by omega)
theorem setCode_ok {L : List Int} {page : Int} (h : setCode L page = 0) : 0 ≤ page ∧ page < 256 ∧ page ≤ L.length := by
  unfold setCode at h
  split at h
  · omega
  · split at h <;> omega

set_option maxRecDepth 100000 in
set_option maxHeartbeats 4000000 in
theorem last_any (A : Option Addr) (n cap : Nat) (p r d : Nat → Int) (w : World) (hz : InOps w A n p r d) :
    Calls Try.prog 8 #[.slice A n cap] w fun e w' => e = .returned (.bool true) ∧ Below w.heap.size w w' := by
  have hmm := @run_makeMap Try.prog
  go_enter Try.func8, Try.ntmps8
  go_wp2_with (first | (go_at_call 12; refine (awake6_any _).mono ?_; rintro e w0 ⟨rfl, hC0⟩) | (go_at_call 13; refine (new_any _).mono ?_; rintro e w1 ⟨rfl, rfl⟩))
  clear hmm
  generalize hw1 : (w0.alloc (ints .i64 97 513 (newf 512))).alloc _ = w1
  have hB : Below w.heap.size w w1 := by rw [← hw1]; exact ((hC0.below (Nat.le_refl _) (by simp)).alloc hC0.size _).alloc (by have := hC0.size; simp; omega) _
  have hm : IsMap w1 w0.heap.size [] := by rw [← hw1]; exact (IsMap.new w0).chg ((Chg.refl [] _).alloc _) (by simp)
  have ho : w1.ownsMap Try.prog 3 (plainElem (H := Unit) Try.prog 3) (w0.heap.size + 1) 0 (.map []) := by
    rw [← hw1]
    have := World.ownsMap_made (w0.alloc (ints .i64 97 513 (newf 512))) Try.prog 3 (plainElem (H := Unit) Try.prog 3)
    simpa using this
  have hle := hC0.size
  clear hw1 hC0
  obtain ⟨b, hb⟩ : ∃ b, b = w0.heap.size := ⟨_, rfl⟩
  rw [← hb] at hm ho hle ⊢
  clear hb
  go_loopw [15] (fun i wr => ∃ (k : Nat) (L : List Int) (D : MD), i = .int .i64 k ∧ k ≤ n ∧ k ≤ 200 ∧ Below w.heap.size w wr ∧ IsMap wr b L ∧ wr.ownsMap Try.prog 3 (plainElem (H := Unit) Try.prog 3) (b + 1) k D ∧ Tells D L) (fun i _ => n - (intOf i).toNat)
  case atStart => exact ⟨0, [], _, rfl, by omega, by omega, hB, hm, ho, Tells.start⟩
  case round =>
    obtain ⟨k, L, D, rfl, hk, hk2, hBr, hmr, hor, htr⟩ := hrel
    have HM := Lib.hid hmr
    have HO := Lib.hid hor
    have HT := Lib.hid htr
    clear hm ho hB hmr hor htr
    by_cases hlt : k < n
    · obtain ⟨g, off, rfl, hcz⟩ := hz (by omega)
      obtain ⟨c1, c2, c3⟩ := hcz k (by omega)
      have g1 := (hBr.cell (World.block_lt_of_cell? _ _ c1)).trans c1
      have g2 := (hBr.cell (World.block_lt_of_cell? _ _ c2)).trans c2
      have g3 := (hBr.cell (World.block_lt_of_cell? _ _ c3)).trans c3
      have hsz := hBr.size
      have hbl := World.block_lt_of_cell? _ _ c1
      simp at hbl
      have HB := Lib.hid hBr
      clear hcz c1 c2 c3 hz hBr
      by_cases h3 : k < 200
      · have d3 : decide ((200 : Int) ≤ k) = false := by simp; omega
        have hlb : b < wr.heap.size := HM.out.lt
        have hlm : b + 1 < wr.heap.size := HO.out.lt
        go_wp2_with fail
        generalize hwa : wr.alloc _ = wa
        have a1 : wa.cell? ⟨wr.heap.size, 0, none⟩ = some (.int .i64 (p k)) := by rw [← hwa]; simp
        have a2 : wa.cell? ⟨wr.heap.size, 1, none⟩ = some (.int .i64 (r k)) := by rw [← hwa]; simp
        have hBa : Below w.heap.size w wa := by rw [← hwa]; exact HB.out.alloc HB.out.size _
        have hma : IsMap wa b L := by rw [← hwa]; exact HM.out.chg ((Chg.refl [] _).alloc _) (by simp)
        have hoa : wa.ownsMap Try.prog 3 (plainElem (H := Unit) Try.prog 3) (b + 1) k D := by rw [← hwa]; exact HO.out.alloc _
        have hsa : wa.heap.size = wr.heap.size + 1 := by rw [← hwa]; simp
        clear hwa
        refine (set_any b L _ _ _ hma).mono ?_
        rintro e w2 ⟨rfl, hm2, hC2⟩
        have b1 := hC2.cell a1 (by simp; omega)
        have b2 := hC2.cell a2 (by simp; omega)
        have hB2 := hBa.trans (hC2.below (B := w.heap.size) (by have := hBa.size; omega) (by simp; omega))
        have ho2 := hoa.kept hC2.grown (by simp)
        have HM2 := Lib.hid hm2
        have HB2 := Lib.hid hB2
        have HO2 := Lib.hid ho2
        clear a1 a2 hBa hma hoa hsa hm2 hC2 hB2 ho2
        by_cases hc : setCode L (p k) = 0
        · have hpk := setCode_ok hc
          obtain ⟨q, hq⟩ : ∃ q : Nat, p k = q := ⟨(p k).toNat, by omega⟩
          have hn2 : setNew L (p k) (r k) = setL L q (r k) := by unfold setNew; rw [hc, if_pos rfl, hq]; simp
          have HT2 := Lib.hid (HT.out.put q (r k) (by omega))
          rw [hc]
          rw [hq] at b1
          rw [hn2] at HM2
          obtain ⟨L2, hL2⟩ : ∃ L2, L2 = setL L q (r k) := ⟨_, rfl⟩
          obtain ⟨D2, hD2⟩ : ∃ D2, D2 = D.put (.int .i64 q) (.lit (.int .i64 (clamp (r k)))) := ⟨_, rfl⟩
          obtain ⟨N2, hN2⟩ : ∃ N2, N2 = k + 1 := ⟨_, rfl⟩
          rw [← hL2] at HM2 HT2
          rw [← hD2] at HT2
          have HD2 := Lib.hid hD2
          have HN2 : Hid (N2 ≤ k + 1) := Lib.hid (by omega)
          have HN3 := Lib.hid hN2
          have hwq : (Lit.int .i64 (q : Int)).wf = true := wf64 (by omega)
          have hwc := wf64 (clamp_rng (r k))
          have HW1 := Lib.hid hwq
          have HW2 := Lib.hid hwc
          clear hc hpk hn2 hwq hwc hq hL2 hD2 hN2
          go_wp2_with (first | (at_mapUpdate; refine wpList_mapUpdate_own _ rfl _ _ _ 87 rfl 3 3 law3 Try.underlying87 _ (b + 1) k _ rfl HO2.out (by unfold maxLen; omega) _ _ _ rfl rfl (Maps.keyOf_int_mk Try.underlying3 HW1.out) _ [] (plainElem_int Try.underlying3 HW2.out) ?_; intro w3 ho3 hg3; have HM3 := Lib.hid (HM2.out.chg (Chg.of_grown hg3) (by simp)); have HB3 := Lib.hid (HB2.out.grown hg3 HB2.out.size (by simp; omega)); have HL3 := Lib.hid ho3.lt; have HO3 : Hid (w3.ownsMap Try.prog 3 (plainElem (H := Unit) Try.prog 3) (b + 1) N2 D2) := Lib.hid (by rw [HD2.out, HN3.out]; exact ho3); clear ho3 hg3) | (at_range; refine wpList_range_own _ rfl _ 87 rfl 3 3 law3 Try.underlying87 _ (b + 1) N2 D2 rfl HO3.out ?_; intro w4 hrg4 hg4 hs4))
          go_frame
          have hm4 : IsMap w4 b L2 := HM3.out.chg (Chg.of_grown hg4) (by simp)
          have hB4 : Below w.heap.size w w4 := HB3.out.grown hg4 HB3.out.size (by simp)
          obtain ⟨rr, hrr⟩ : ∃ rr, rr = w3.heap.size := ⟨_, rfl⟩
          have hrb : b + 1 < rr := by rw [hrr]; exact HL3.out
          have hrB : w.heap.size ≤ rr := by rw [hrr]; exact HB3.out.size
          rw [← hrr] at hrg4 ⊢
          clear hg4 hs4 hrr b1 b2
          go_loopw [7] (fun _ wr => ∃ (left : Lit → Bool) (cnt : Nat), wr.ranges Try.prog 3 (plainElem (H := Unit) Try.prog 3) (b + 1) rr N2 D2 left cnt ∧ IsMap wr b L2 ∧ Below w.heap.size w wr) (fun _ wr => wr.rangeLeft (b + 1) rr)
          case atStart => exact ⟨_, _, hrg4, hm4, hB4⟩
          case round =>
            obtain ⟨left, cnt, hrg, hmr, hBr⟩ := hrel
            have HMr := Lib.hid hmr
            have HBr := Lib.hid hBr
            clear hrg4 hm4 hB4 hmr hBr
            go_wp2_with (first | (at_next; refine wpList_next_ranges_ii _ rfl _ rfl 3 3 .i64 .i64 law3 Try.underlying3 Try.underlying3 (b + 1) rr N2 _ _ _ rfl hrg ?_ ?_))
            · intro _ _
              go_wp2
              go_roundw
              case measure => simp [intOf]; omega
              case rel => exact ⟨k + 1, L2, D2, by go_num, by omega, by omega, HBr.out, HMr.out, hrg.owns.mono HN2.out, HT2.out⟩
            · intro x c w5 cnt5 hwx hwc hlx hat hrg5 hlt5 hg5 hs5 hen
              have hxc : getAt L2 x = c := HT2.out.entry hat
              have hm5 : IsMap w5 b L2 := HMr.out.chg (Chg.of_grown hg5) (by simp; omega)
              have hB5 : Below w.heap.size w w5 := HBr.out.grown hg5 HBr.out.size (by simp; omega)
              have hgt := get_any b L2 x w5 hm5
              rw [hxc] at hgt
              have HG := Lib.hid hgt
              clear hat hxc hgt hwx hwc hlx
              go_wp2_with (first | (go_at_call 19; refine HG.out.mono ?_; rintro e w6 ⟨rfl, rfl⟩))
              go_roundw
              case measure => rw [hrg5.left_eq, hrg.left_eq]; exact hlt5
              case rel => exact ⟨_, _, hrg5, hm5, hB5⟩
        · have hn2 : setNew L (p k) (r k) = L := by unfold setNew; rw [if_neg hc]
          have hcb : (setCode L (p k) == 0) = false := by simpa using hc
          rw [hn2] at HM2
          clear hc hn2
          obtain ⟨L2, hL2⟩ : ∃ L2, L2 = L := ⟨_, rfl⟩
          obtain ⟨D2, hD2⟩ : ∃ D2, D2 = D := ⟨_, rfl⟩
          obtain ⟨N2, hN2⟩ : ∃ N2, N2 = k := ⟨_, rfl⟩
          have HN2 : Hid (N2 ≤ k + 1) := Lib.hid (by omega)
          obtain ⟨w3, hw3⟩ : ∃ w3, w3 = w2 := ⟨_, rfl⟩
          have HM3 : Hid (IsMap w3 b L2) := Lib.hid (by rw [hw3, hL2]; exact HM2.out)
          have HB3 : Hid (Below w.heap.size w w3) := Lib.hid (by rw [hw3]; exact HB2.out)
          have HO3 : Hid (w3.ownsMap Try.prog 3 (plainElem (H := Unit) Try.prog 3) (b + 1) N2 D2) := Lib.hid (by rw [hw3, hD2, hN2]; exact HO2.out)
          have HL3 : Hid (b + 1 < w3.heap.size) := Lib.hid HO3.out.lt
          have HT2 : Hid (Tells D2 L2) := Lib.hid (by rw [hD2, hL2]; exact HT.out)
          clear hL2 hD2 hN2
          rw [← hw3] at b1 b2 ⊢
          clear hw3
          go_wp2_with (first | (at_range; refine wpList_range_own _ rfl _ 87 rfl 3 3 law3 Try.underlying87 _ (b + 1) N2 D2 rfl HO3.out ?_; intro w4 hrg4 hg4 hs4))
          go_frame
          have hm4 : IsMap w4 b L2 := HM3.out.chg (Chg.of_grown hg4) (by simp)
          have hB4 : Below w.heap.size w w4 := HB3.out.grown hg4 HB3.out.size (by simp)
          obtain ⟨rr, hrr⟩ : ∃ rr, rr = w3.heap.size := ⟨_, rfl⟩
          have hrb : b + 1 < rr := by rw [hrr]; exact HL3.out
          have hrB : w.heap.size ≤ rr := by rw [hrr]; exact HB3.out.size
          rw [← hrr] at hrg4 ⊢
          clear hg4 hs4 hrr b1 b2
          go_loopw [7] (fun _ wr => ∃ (left : Lit → Bool) (cnt : Nat), wr.ranges Try.prog 3 (plainElem (H := Unit) Try.prog 3) (b + 1) rr N2 D2 left cnt ∧ IsMap wr b L2 ∧ Below w.heap.size w wr) (fun _ wr => wr.rangeLeft (b + 1) rr)
          case atStart => exact ⟨_, _, hrg4, hm4, hB4⟩
          case round =>
            obtain ⟨left, cnt, hrg, hmr, hBr⟩ := hrel
            have HMr := Lib.hid hmr
            have HBr := Lib.hid hBr
            clear hrg4 hm4 hB4 hmr hBr
            go_wp2_with (first | (at_next; refine wpList_next_ranges_ii _ rfl _ rfl 3 3 .i64 .i64 law3 Try.underlying3 Try.underlying3 (b + 1) rr N2 _ _ _ rfl hrg ?_ ?_))
            · intro _ _
              go_wp2
              go_roundw
              case measure => simp [intOf]; omega
              case rel => exact ⟨k + 1, L2, D2, by go_num, by omega, by omega, HBr.out, HMr.out, hrg.owns.mono HN2.out, HT2.out⟩
            · intro x c w5 cnt5 hwx hwc hlx hat hrg5 hlt5 hg5 hs5 hen
              have hxc : getAt L2 x = c := HT2.out.entry hat
              have hm5 : IsMap w5 b L2 := HMr.out.chg (Chg.of_grown hg5) (by simp; omega)
              have hB5 : Below w.heap.size w w5 := HBr.out.grown hg5 HBr.out.size (by simp; omega)
              have hgt := get_any b L2 x w5 hm5
              rw [hxc] at hgt
              have HG := Lib.hid hgt
              clear hat hxc hgt hwx hwc hlx
              go_wp2_with (first | (go_at_call 19; refine HG.out.mono ?_; rintro e w6 ⟨rfl, rfl⟩))
              go_roundw
              case measure => rw [hrg5.left_eq, hrg.left_eq]; exact hlt5
              case rel => exact ⟨_, _, hrg5, hm5, hB5⟩
      · have hk' : k = 200 := by omega
        have d3 : decide ((200 : Int) ≤ k) = true := by simp; omega
        clear hk'
        obtain ⟨m, hm⟩ : ∃ m : Nat, m = L.length := ⟨_, rfl⟩
        have hpg := fun w' (h : IsMap w' b L) => pages_any b L w' h
        have hsz2 := HT.out.size
        rw [← hm] at hpg hsz2
        have HP := Lib.hid hpg
        have HS2 := Lib.hid hsz2
        clear hm hpg hsz2
        go_wp2_with (first | (go_at_call 15; refine (HP.out _ (HM.out.chg ((Chg.refl [] _).alloc _) (by simp))).mono ?_; rintro e w6 ⟨rfl, rfl⟩) | (at_len; refine wpList_len_own _ rfl _ 87 rfl 3 3 Try.underlying87 _ (b + 1) k D rfl (HO.out.alloc _) ?_; rw [HS2.out]))
        go_ret
        exact ⟨rfl, HB.out.alloc HB.out.size _⟩
    · have HB := Lib.hid hBr
      clear hz hBr
      obtain ⟨m, hm⟩ : ∃ m : Nat, m = L.length := ⟨_, rfl⟩
      have hpg := fun w' (h : IsMap w' b L) => pages_any b L w' h
      have hsz2 := HT.out.size
      rw [← hm] at hpg hsz2
      have HP := Lib.hid hpg
      have HS2 := Lib.hid hsz2
      clear hm hpg hsz2
      go_wp2_with (first | (go_at_call 15; refine (HP.out _ HM.out).mono ?_; rintro e w6 ⟨rfl, rfl⟩) | (at_len; refine wpList_len_own _ rfl _ 87 rfl 3 3 Try.underlying87 _ (b + 1) k D rfl HO.out ?_; rw [HS2.out]))
      go_ret
      exact ⟨rfl, HB.out⟩

end Go.Proofs.Yteokjaocnemmlaa
