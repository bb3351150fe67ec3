/-
  The walks of the reference's valid and Right: what they answer is the value's alone. Printed by mk_right.py.
-/
import Derived.Test.YtkdhhafoohnlnaaSrt4
namespace Go.Proofs.Ytkdhhafoohnlnaa
open Go.RowKit

/-- A text's byte, as a number. -/
def byt (s : ByteArray) (k : Nat) : Int := if h : k < s.size then ((s[k]'h).toNat : Int) else 0
theorem byt_at (s : ByteArray) : ∀ (n : Nat) (h : n < s.size), ((s[n]'h).toNat : Int) = byt s n := fun n h => by unfold byt; rw [dif_pos h]
theorem byt_range (s : ByteArray) (k : Nat) : 0 ≤ byt s k ∧ byt s k ≤ 255 := by
  unfold byt
  split
  · rename_i h
    have := (s[k]'h).toNat_lt
    omega
  · omega
/-- The rune's bytes behind its first. -/
def contA (s : ByteArray) (j : Nat) : Int → Nat → Nat → Option Int
  | x, _, 0 => some x
  | x, q, m + 1 => if byt s (j + q) < 128 ∨ 192 ≤ byt s (j + q) then none else contA s j (wrap32 (wrap32 (x * 64) + (byt s (j + q) - 128))) (q + 1) m
def badR (least x : Int) : Bool := decide (x < least) || (decide (1114111 < x) || (decide (55296 ≤ x) && decide (x < 57344)))
def multi (s : ByteArray) (j : Nat) (n : Nat) (least base : Int) : Option Nat :=
  if s.size - j ≤ n then none else
    match contA s j (byt s j - base) 1 n with
    | none => none
    | some x => if badR least x then none else some (n + 1)
/-- How far a rune goes. -/
def vstep (s : ByteArray) (j : Nat) : Option Nat :=
  if byt s j = 0 then none else if byt s j < 128 then some 1 else
  if 192 ≤ byt s j ∧ byt s j < 224 then multi s j 1 128 192 else
  if 224 ≤ byt s j ∧ byt s j < 240 then multi s j 2 2048 224 else
  if 240 ≤ byt s j ∧ byt s j < 248 then multi s j 3 65536 240 else none
def validA (s : ByteArray) : Nat → Nat → Bool
  | 0, _ => true
  | f + 1, j => if j < s.size then (match vstep s j with | none => false | some m => validA s f (j + m)) else true
def validB (s : ByteArray) : Bool := validA s s.size 0
theorem validA_none {s : ByteArray} {f j : Nat} (hj : j < s.size) (hf : s.size - j ≤ f) (h : vstep s j = none) : validA s f j = false := by
  cases f with
  | zero => omega
  | succ f => show (if j < s.size then _ else _) = _; rw [if_pos hj, h]
theorem validA_some {s : ByteArray} {f j m : Nat} (hj : j < s.size) (hf : s.size - j ≤ f) (h : vstep s j = some m) (hm : 0 < m) : ∃ f', s.size - (j + m) ≤ f' ∧ validA s f' (j + m) = validA s f j := by
  cases f with
  | zero => omega
  | succ f =>
    refine ⟨f, by omega, ?_⟩
    show _ = (if j < s.size then _ else _)
    rw [if_pos hj, h]
theorem validA_end {s : ByteArray} {f j : Nat} (hj : ¬ j < s.size) : validA s f j = true := by
  cases f with
  | zero => rfl
  | succ f => show (if j < s.size then _ else _) = _; rw [if_neg hj]
theorem contA_none {s : ByteArray} {j q m n : Nat} {x x0 : Int} (h : contA s j x q m = contA s j x0 1 n) (hm : 0 < m) (hb : byt s (j + q) < 128 ∨ 192 ≤ byt s (j + q)) : contA s j x0 1 n = none := by
  cases m with
  | zero => omega
  | succ m => rw [← h]; show (if _ then _ else _) = _; rw [if_pos hb]
theorem contA_some {s : ByteArray} {j q m n : Nat} {x x0 : Int} (h : contA s j x q m = contA s j x0 1 n) (hm : 0 < m) (hb : ¬ byt s (j + q) < 128) (hb' : ¬ 192 ≤ byt s (j + q)) : contA s j (wrap32 (wrap32 (x * 64) + (byt s (j + q) - 128))) (q + 1) (m - 1) = contA s j x0 1 n := by
  cases m with
  | zero => omega
  | succ m => rw [← h]; show _ = (if _ then _ else _); rw [if_neg (by omega)]; rfl

set_option maxRecDepth 100000 in
set_option maxHeartbeats 8000000 in
theorem valid34 (s : ByteArray) (hs : s.size ≤ 60) (w : World) : Calls Try.prog 34 #[.string s] w fun e w' => e = .returned (.bool (validB s)) ∧ Chg [] w w' := by
  have hb := byt_at s
  have hr := byt_range s
  obtain ⟨z, hz⟩ : ∃ z, z = validB s := ⟨_, rfl⟩
  rw [← hz]
  have HZ := Lib.hid hz
  clear hz
  go_enter Try.func34, Try.ntmps34
  go_wp2_with fail
  go_loopw [3] (fun i wr => ∃ j : Nat, i = .int .i64 j ∧ j ≤ s.size ∧ (∃ f, s.size - j ≤ f ∧ validA s f j = z) ∧ Chg [] w wr) (fun i _ => s.size - (intOf i).toNat)
  case atStart => exact ⟨0, rfl, by omega, ⟨s.size, by omega, HZ.out.symm⟩, Chg.refl [] w⟩
  case round =>
    obtain ⟨j, rfl, hj, hV, hC⟩ := hrel
    have HV := Lib.hid hV
    have HC := Lib.hid hC
    clear hV hC
    have hsz : s.size < 9223372036854775808 := by omega
    by_cases hlt : j < s.size
    · have hji : (j : Int) < (s.size : Int) := by omega
      obtain ⟨h0, h1⟩ := hr j
      by_cases e0 : byt s j = 0
      · have hn : z = false := by
          obtain ⟨f, hf, hv⟩ := HV.out
          rw [← hv]
          exact validA_none hlt hf (by unfold vstep; rw [if_pos e0])
        subst hn
        go_wp2_with fail
        go_ret
        exact ⟨rfl, HC.out⟩
      · by_cases e1 : byt s j < 128
        · have HS := Lib.hid (show vstep s j = some 1 by unfold vstep; rw [if_neg e0, if_pos e1])
          go_wp2_with fail
          go_roundw
          case measure => simp [intOf]; omega
          case rel =>
            obtain ⟨f, hf, hv⟩ := HV.out
            obtain ⟨f', hf', hv'⟩ := validA_some hlt hf HS.out (by omega)
            exact ⟨j + 1, by go_num, by omega, ⟨f', hf', hv'.trans hv⟩, HC.out⟩
        · by_cases p1 : 192 ≤ byt s j ∧ byt s j < 224
          · have HS := Lib.hid (show vstep s j = multi s j 1 128 192 by unfold vstep; rw [if_neg e0, if_neg e1, if_pos p1])
            obtain ⟨x1, x2⟩ := p1
            by_cases q0 : s.size - j ≤ 1
            · have hn : z = false := by
                obtain ⟨f, hf, hv⟩ := HV.out
                rw [← hv]
                exact validA_none hlt hf (by rw [HS.out]; unfold multi; rw [if_pos q0])
              subst hn
              have q1 : ¬ (1 : Int) < (s.size : Int) - (j : Int) := by omega
              have q2 : (s.size : Int) - (j : Int) ≤ 1 := by omega
              go_wp2_with fail
              go_ret
              exact ⟨rfl, HC.out⟩
            · have q1 : (1 : Int) < (s.size : Int) - (j : Int) := by omega
              have q2 : ¬ (s.size : Int) - (j : Int) ≤ 1 := by omega
              go_wp2_with fail
              go_loopw [7, 8] (fun r k wx => ∃ (q : Nat) (x : Int), k = .int .i64 q ∧ r = .int .i32 x ∧ 1 ≤ q ∧ q ≤ 2 ∧ contA s j x q (2 - q) = contA s j (byt s j - 192) 1 1 ∧ Chg [] w wx) (fun _ k _ => 3 - (intOf k).toNat)
              case atStart => exact ⟨1, _, rfl, rfl, by omega, by omega, rfl, HC.out⟩
              case round =>
                obtain ⟨q, x, rfl, rfl, hq1, hq2, hx, hCx⟩ := hrel
                have HX := Lib.hid hx
                have HCX := Lib.hid hCx
                clear hx hCx
                by_cases hqn : q ≤ 1
                · obtain ⟨g0, g1⟩ := hr (j + q)
                  have hqi : (q : Int) ≤ 1 := by omega
                  have hjq : (j : Int) + (q : Int) < (s.size : Int) := by omega
                  by_cases g2 : byt s (j + q) < 128
                  · have hn : z = false := by
                      obtain ⟨f, hf, hv⟩ := HV.out
                      rw [← hv]
                      exact validA_none hlt hf (by rw [HS.out]; unfold multi; rw [if_neg q0, contA_none HX.out (by omega) (.inl g2)])
                    subst hn
                    go_wp2_with fail
                    go_ret
                    exact ⟨rfl, HCX.out⟩
                  · by_cases g3 : 192 ≤ byt s (j + q)
                    · have hn : z = false := by
                        obtain ⟨f, hf, hv⟩ := HV.out
                        rw [← hv]
                        exact validA_none hlt hf (by rw [HS.out]; unfold multi; rw [if_neg q0, contA_none HX.out (by omega) (.inr g3)])
                      subst hn
                      go_wp2_with fail
                      go_ret
                      exact ⟨rfl, HCX.out⟩
                    · have HY := Lib.hid (contA_some HX.out (by omega) g2 g3)
                      go_wp2_with fail
                      go_roundw
                      case measure => simp [intOf]; omega
                      case rel => exact ⟨q + 1, _, by go_num, rfl, by omega, by omega, by have := HY.out; rw [show 2 - q - 1 = 2 - (q + 1) by omega] at this; exact this, HCX.out⟩
                · have hqe : q = 2 := by omega
                  subst hqe
                  have HE := Lib.hid (show contA s j (byt s j - 192) 1 1 = some x by rw [← HX.out]; rfl)
                  have hm : ∀ t, badR 128 x = t → vstep s j = if t = true then none else some (1 + 1) := by
                    intro t ht
                    rw [HS.out]
                    unfold multi
                    rw [if_neg q0, HE.out]
                    show (if badR 128 x = true then none else some (1 + 1)) = _
                    rw [ht]
                  have HM := Lib.hid hm
                  clear hm
                  have hno : badR 128 x = true → z = false := by
                    intro ht
                    obtain ⟨f, hf, hv⟩ := HV.out
                    rw [← hv]
                    exact validA_none hlt hf (by rw [HM.out _ ht]; rfl)
                  by_cases y1 : x < 128
                  · have hn := hno (by simp [badR, y1])
                    clear hno
                    subst hn
                    go_wp2_with fail
                    go_ret
                    exact ⟨rfl, HCX.out⟩
                  · by_cases y2 : 1114111 < x
                    · have hn := hno (by simp [badR, y2])
                      clear hno
                      subst hn
                      go_wp2_with fail
                      go_ret
                      exact ⟨rfl, HCX.out⟩
                    · by_cases y3 : 55296 ≤ x ∧ x < 57344
                      · have hn := hno (by simp [badR, y3])
                        clear hno
                        subst hn
                        obtain ⟨y3, y4⟩ := y3
                        go_wp2_with fail
                        go_ret
                        exact ⟨rfl, HCX.out⟩
                      · have hok : badR 128 x = false := by unfold badR; simp only [Bool.or_eq_false_iff, Bool.and_eq_false_iff, decide_eq_false_iff_not]; omega
                        have HOK := Lib.hid (show vstep s j = some 2 by rw [HM.out _ hok]; rfl)
                        clear hno hok
                        by_cases y4 : 55296 ≤ x
                        · have y5 : ¬ x < 57344 := by omega
                          clear y3
                          go_wp2_with fail
                          go_roundw
                          case measure => simp [intOf]; omega
                          case rel =>
                            obtain ⟨f, hf, hv⟩ := HV.out
                            obtain ⟨f', hf', hv'⟩ := validA_some hlt hf HOK.out (by omega)
                            exact ⟨j + 2, by go_num, by omega, ⟨f', hf', hv'.trans hv⟩, HCX.out⟩
                        · clear y3
                          go_wp2_with fail
                          go_roundw
                          case measure => simp [intOf]; omega
                          case rel =>
                            obtain ⟨f, hf, hv⟩ := HV.out
                            obtain ⟨f', hf', hv'⟩ := validA_some hlt hf HOK.out (by omega)
                            exact ⟨j + 2, by go_num, by omega, ⟨f', hf', hv'.trans hv⟩, HCX.out⟩
          · by_cases p2 : 224 ≤ byt s j ∧ byt s j < 240
            · have HS := Lib.hid (show vstep s j = multi s j 2 2048 224 by unfold vstep; rw [if_neg e0, if_neg e1, if_neg p1, if_pos p2])
              obtain ⟨x1, x2⟩ := p2
              by_cases q0 : s.size - j ≤ 2
              · have hn : z = false := by
                  obtain ⟨f, hf, hv⟩ := HV.out
                  rw [← hv]
                  exact validA_none hlt hf (by rw [HS.out]; unfold multi; rw [if_pos q0])
                subst hn
                have q1 : ¬ (2 : Int) < (s.size : Int) - (j : Int) := by omega
                have q2 : (s.size : Int) - (j : Int) ≤ 2 := by omega
                go_wp2_with fail
                go_ret
                exact ⟨rfl, HC.out⟩
              · have q1 : (2 : Int) < (s.size : Int) - (j : Int) := by omega
                have q2 : ¬ (s.size : Int) - (j : Int) ≤ 2 := by omega
                go_wp2_with fail
                go_loopw [7, 8] (fun r k wx => ∃ (q : Nat) (x : Int), k = .int .i64 q ∧ r = .int .i32 x ∧ 1 ≤ q ∧ q ≤ 3 ∧ contA s j x q (3 - q) = contA s j (byt s j - 224) 1 2 ∧ Chg [] w wx) (fun _ k _ => 4 - (intOf k).toNat)
                case atStart => exact ⟨1, _, rfl, rfl, by omega, by omega, rfl, HC.out⟩
                case round =>
                  obtain ⟨q, x, rfl, rfl, hq1, hq2, hx, hCx⟩ := hrel
                  have HX := Lib.hid hx
                  have HCX := Lib.hid hCx
                  clear hx hCx
                  by_cases hqn : q ≤ 2
                  · obtain ⟨g0, g1⟩ := hr (j + q)
                    have hqi : (q : Int) ≤ 2 := by omega
                    have hjq : (j : Int) + (q : Int) < (s.size : Int) := by omega
                    by_cases g2 : byt s (j + q) < 128
                    · have hn : z = false := by
                        obtain ⟨f, hf, hv⟩ := HV.out
                        rw [← hv]
                        exact validA_none hlt hf (by rw [HS.out]; unfold multi; rw [if_neg q0, contA_none HX.out (by omega) (.inl g2)])
                      subst hn
                      go_wp2_with fail
                      go_ret
                      exact ⟨rfl, HCX.out⟩
                    · by_cases g3 : 192 ≤ byt s (j + q)
                      · have hn : z = false := by
                          obtain ⟨f, hf, hv⟩ := HV.out
                          rw [← hv]
                          exact validA_none hlt hf (by rw [HS.out]; unfold multi; rw [if_neg q0, contA_none HX.out (by omega) (.inr g3)])
                        subst hn
                        go_wp2_with fail
                        go_ret
                        exact ⟨rfl, HCX.out⟩
                      · have HY := Lib.hid (contA_some HX.out (by omega) g2 g3)
                        go_wp2_with fail
                        go_roundw
                        case measure => simp [intOf]; omega
                        case rel => exact ⟨q + 1, _, by go_num, rfl, by omega, by omega, by have := HY.out; rw [show 3 - q - 1 = 3 - (q + 1) by omega] at this; exact this, HCX.out⟩
                  · have hqe : q = 3 := by omega
                    subst hqe
                    have HE := Lib.hid (show contA s j (byt s j - 224) 1 2 = some x by rw [← HX.out]; rfl)
                    have hm : ∀ t, badR 2048 x = t → vstep s j = if t = true then none else some (2 + 1) := by
                      intro t ht
                      rw [HS.out]
                      unfold multi
                      rw [if_neg q0, HE.out]
                      show (if badR 2048 x = true then none else some (2 + 1)) = _
                      rw [ht]
                    have HM := Lib.hid hm
                    clear hm
                    have hno : badR 2048 x = true → z = false := by
                      intro ht
                      obtain ⟨f, hf, hv⟩ := HV.out
                      rw [← hv]
                      exact validA_none hlt hf (by rw [HM.out _ ht]; rfl)
                    by_cases y1 : x < 2048
                    · have hn := hno (by simp [badR, y1])
                      clear hno
                      subst hn
                      go_wp2_with fail
                      go_ret
                      exact ⟨rfl, HCX.out⟩
                    · by_cases y2 : 1114111 < x
                      · have hn := hno (by simp [badR, y2])
                        clear hno
                        subst hn
                        go_wp2_with fail
                        go_ret
                        exact ⟨rfl, HCX.out⟩
                      · by_cases y3 : 55296 ≤ x ∧ x < 57344
                        · have hn := hno (by simp [badR, y3])
                          clear hno
                          subst hn
                          obtain ⟨y3, y4⟩ := y3
                          go_wp2_with fail
                          go_ret
                          exact ⟨rfl, HCX.out⟩
                        · have hok : badR 2048 x = false := by unfold badR; simp only [Bool.or_eq_false_iff, Bool.and_eq_false_iff, decide_eq_false_iff_not]; omega
                          have HOK := Lib.hid (show vstep s j = some 3 by rw [HM.out _ hok]; rfl)
                          clear hno hok
                          by_cases y4 : 55296 ≤ x
                          · have y5 : ¬ x < 57344 := by omega
                            clear y3
                            go_wp2_with fail
                            go_roundw
                            case measure => simp [intOf]; omega
                            case rel =>
                              obtain ⟨f, hf, hv⟩ := HV.out
                              obtain ⟨f', hf', hv'⟩ := validA_some hlt hf HOK.out (by omega)
                              exact ⟨j + 3, by go_num, by omega, ⟨f', hf', hv'.trans hv⟩, HCX.out⟩
                          · clear y3
                            go_wp2_with fail
                            go_roundw
                            case measure => simp [intOf]; omega
                            case rel =>
                              obtain ⟨f, hf, hv⟩ := HV.out
                              obtain ⟨f', hf', hv'⟩ := validA_some hlt hf HOK.out (by omega)
                              exact ⟨j + 3, by go_num, by omega, ⟨f', hf', hv'.trans hv⟩, HCX.out⟩
            · by_cases p3 : 240 ≤ byt s j ∧ byt s j < 248
              · have HS := Lib.hid (show vstep s j = multi s j 3 65536 240 by unfold vstep; rw [if_neg e0, if_neg e1, if_neg p1, if_neg p2, if_pos p3])
                obtain ⟨x1, x2⟩ := p3
                by_cases q0 : s.size - j ≤ 3
                · have hn : z = false := by
                    obtain ⟨f, hf, hv⟩ := HV.out
                    rw [← hv]
                    exact validA_none hlt hf (by rw [HS.out]; unfold multi; rw [if_pos q0])
                  subst hn
                  have q1 : ¬ (3 : Int) < (s.size : Int) - (j : Int) := by omega
                  have q2 : (s.size : Int) - (j : Int) ≤ 3 := by omega
                  go_wp2_with fail
                  go_ret
                  exact ⟨rfl, HC.out⟩
                · have q1 : (3 : Int) < (s.size : Int) - (j : Int) := by omega
                  have q2 : ¬ (s.size : Int) - (j : Int) ≤ 3 := by omega
                  go_wp2_with fail
                  go_loopw [7, 8] (fun r k wx => ∃ (q : Nat) (x : Int), k = .int .i64 q ∧ r = .int .i32 x ∧ 1 ≤ q ∧ q ≤ 4 ∧ contA s j x q (4 - q) = contA s j (byt s j - 240) 1 3 ∧ Chg [] w wx) (fun _ k _ => 5 - (intOf k).toNat)
                  case atStart => exact ⟨1, _, rfl, rfl, by omega, by omega, rfl, HC.out⟩
                  case round =>
                    obtain ⟨q, x, rfl, rfl, hq1, hq2, hx, hCx⟩ := hrel
                    have HX := Lib.hid hx
                    have HCX := Lib.hid hCx
                    clear hx hCx
                    by_cases hqn : q ≤ 3
                    · obtain ⟨g0, g1⟩ := hr (j + q)
                      have hqi : (q : Int) ≤ 3 := by omega
                      have hjq : (j : Int) + (q : Int) < (s.size : Int) := by omega
                      by_cases g2 : byt s (j + q) < 128
                      · have hn : z = false := by
                          obtain ⟨f, hf, hv⟩ := HV.out
                          rw [← hv]
                          exact validA_none hlt hf (by rw [HS.out]; unfold multi; rw [if_neg q0, contA_none HX.out (by omega) (.inl g2)])
                        subst hn
                        go_wp2_with fail
                        go_ret
                        exact ⟨rfl, HCX.out⟩
                      · by_cases g3 : 192 ≤ byt s (j + q)
                        · have hn : z = false := by
                            obtain ⟨f, hf, hv⟩ := HV.out
                            rw [← hv]
                            exact validA_none hlt hf (by rw [HS.out]; unfold multi; rw [if_neg q0, contA_none HX.out (by omega) (.inr g3)])
                          subst hn
                          go_wp2_with fail
                          go_ret
                          exact ⟨rfl, HCX.out⟩
                        · have HY := Lib.hid (contA_some HX.out (by omega) g2 g3)
                          go_wp2_with fail
                          go_roundw
                          case measure => simp [intOf]; omega
                          case rel => exact ⟨q + 1, _, by go_num, rfl, by omega, by omega, by have := HY.out; rw [show 4 - q - 1 = 4 - (q + 1) by omega] at this; exact this, HCX.out⟩
                    · have hqe : q = 4 := by omega
                      subst hqe
                      have HE := Lib.hid (show contA s j (byt s j - 240) 1 3 = some x by rw [← HX.out]; rfl)
                      have hm : ∀ t, badR 65536 x = t → vstep s j = if t = true then none else some (3 + 1) := by
                        intro t ht
                        rw [HS.out]
                        unfold multi
                        rw [if_neg q0, HE.out]
                        show (if badR 65536 x = true then none else some (3 + 1)) = _
                        rw [ht]
                      have HM := Lib.hid hm
                      clear hm
                      have hno : badR 65536 x = true → z = false := by
                        intro ht
                        obtain ⟨f, hf, hv⟩ := HV.out
                        rw [← hv]
                        exact validA_none hlt hf (by rw [HM.out _ ht]; rfl)
                      by_cases y1 : x < 65536
                      · have hn := hno (by simp [badR, y1])
                        clear hno
                        subst hn
                        go_wp2_with fail
                        go_ret
                        exact ⟨rfl, HCX.out⟩
                      · by_cases y2 : 1114111 < x
                        · have hn := hno (by simp [badR, y2])
                          clear hno
                          subst hn
                          go_wp2_with fail
                          go_ret
                          exact ⟨rfl, HCX.out⟩
                        · by_cases y3 : 55296 ≤ x ∧ x < 57344
                          · have hn := hno (by simp [badR, y3])
                            clear hno
                            subst hn
                            obtain ⟨y3, y4⟩ := y3
                            go_wp2_with fail
                            go_ret
                            exact ⟨rfl, HCX.out⟩
                          · have hok : badR 65536 x = false := by unfold badR; simp only [Bool.or_eq_false_iff, Bool.and_eq_false_iff, decide_eq_false_iff_not]; omega
                            have HOK := Lib.hid (show vstep s j = some 4 by rw [HM.out _ hok]; rfl)
                            clear hno hok
                            by_cases y4 : 55296 ≤ x
                            · have y5 : ¬ x < 57344 := by omega
                              clear y3
                              go_wp2_with fail
                              go_roundw
                              case measure => simp [intOf]; omega
                              case rel =>
                                obtain ⟨f, hf, hv⟩ := HV.out
                                obtain ⟨f', hf', hv'⟩ := validA_some hlt hf HOK.out (by omega)
                                exact ⟨j + 4, by go_num, by omega, ⟨f', hf', hv'.trans hv⟩, HCX.out⟩
                            · clear y3
                              go_wp2_with fail
                              go_roundw
                              case measure => simp [intOf]; omega
                              case rel =>
                                obtain ⟨f, hf, hv⟩ := HV.out
                                obtain ⟨f', hf', hv'⟩ := validA_some hlt hf HOK.out (by omega)
                                exact ⟨j + 4, by go_num, by omega, ⟨f', hf', hv'.trans hv⟩, HCX.out⟩
              · have HS := Lib.hid (show vstep s j = none by unfold vstep; rw [if_neg e0, if_neg e1, if_neg p1, if_neg p2, if_neg p3])
                have hn : z = false := by
                  obtain ⟨f, hf, hv⟩ := HV.out
                  rw [← hv]
                  exact validA_none hlt hf HS.out
                subst hn
                by_cases d1 : byt s j < 192
                · clear p1 p2 p3
                  go_wp2_with fail
                  go_ret
                  exact ⟨rfl, HC.out⟩
                · have d2 : ¬ byt s j < 224 := by omega
                  have d3 : ¬ byt s j < 240 := by omega
                  have d4 : ¬ byt s j < 248 := by omega
                  clear p1 p2 p3
                  go_wp2_with fail
                  go_ret
                  exact ⟨rfl, HC.out⟩
    · have hn : z = true := by
        obtain ⟨f, hf, hv⟩ := HV.out
        rw [← hv]
        exact validA_end hlt
      subst hn
      go_wp2_with fail
      go_ret
      exact ⟨rfl, HC.out⟩
end Go.Proofs.Ytkdhhafoohnlnaa
