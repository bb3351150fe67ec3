/-
  The walk of the statement FoldOrders.
-/
import Derived.Test.YtkdhhafoohnlnaaAwk3
namespace Go.Proofs.Ytkdhhafoohnlnaa
open Go.RowKit

theorem KeysAt.take {w : World} {A : Option Addr} {c n : Nat} {K : List (List Vl)} (h : KeysAt w (.slice A n c) K) {m c' : Nat} (hm : m ≤ K.length) : KeysAt w (.slice A m c') (K.take m) := by
  obtain ⟨A', c0, vs, he, hc⟩ := h
  injection he with h1 h2 h3
  subst h1
  refine ⟨A, c', vs, by rw [List.length_take, Nat.min_eq_left hm], fun j l hl => hc j l ?_⟩
  rw [List.getElem?_take] at hl
  split at hl
  · exact hl
  · cases hl
theorem KeysAt.at_ {w : World} {A : Option Addr} {c n : Nat} {K : List (List Vl)} (h : KeysAt w (.slice A n c) K) {j : Nat} (hj : j < K.length) : ∃ b off A2 c2 r, A = some ⟨b, off, none⟩ ∧ K[j]? = some r ∧ w.cell? ⟨b, off + j, none⟩ = some (.slice A2 r.length c2) ∧ RowAt w (.slice A2 r.length c2) r := by
  obtain ⟨r, hr⟩ : ∃ r, K[j]? = some r := ⟨_, List.getElem?_eq_getElem hj⟩
  obtain ⟨b, off, c', u, he, hu, hru⟩ := h.cell hr
  injection he with h1 h2 h3
  obtain ⟨A2, c2, hu2, _⟩ := id hru
  subst hu2
  exact ⟨b, off, A2, c2, r, h1, hr, hu, hru⟩
theorem less_rows {w : World} {u v vD : Value} {r s : List Vl} {d : List Bool} (hu : RowAt w u r) (hv : RowAt w v s) (hD : BoolAt w vD d) (hr : r.length ≤ 1000) (w0 : World) (hC : Chg [] w w0) : Calls Try.prog 17 #[u, v, vD] w0 fun e w' => e = .returned (.bool (lessK r s d)) ∧ Chg [] w0 w' :=
  fless_any u v vD r s d w0 (hu.chg hC) (hv.chg hC) (hD.chg hC) hr

set_option maxRecDepth 100000 in
set_option maxHeartbeats 16000000 in
theorem foldOrders {w : World} {vL vD : Value} {L : List (List Vl)} {d : List Bool} (hL : KeysAt w vL L) (hD : BoolAt w vD d) : Calls Try.prog 7 #[vL, vD] w fun e w' => e = .returned (.bool true) ∧ Chg [] w w' := by
  have AW := Lib.hid awake9
  have F := Lib.hid (fun (w0 : World) (hC : Chg [] w w0) => few10c (n := 3) (hL.chg hC) (by omega))
  obtain ⟨K0, hK0⟩ : ∃ K, K = fewK 3 L := ⟨_, rfl⟩
  have hK1 := fewK_even 3 L
  rw [← hK0] at F hK1
  obtain ⟨n0, hn0⟩ : ∃ n, n = K0.length := ⟨_, rfl⟩
  obtain ⟨n, hn⟩ : ∃ n, n = min n0 12 := ⟨_, rfl⟩
  obtain ⟨K, hK⟩ : ∃ K, K = K0.take n := ⟨_, rfl⟩
  have hKn : K.length = n := by rw [hK, List.length_take]; omega
  have hE : Even K 3 := by rw [hK]; exact fun r hr => hK1 r (List.mem_of_mem_take hr)
  rw [← hn0, show ((3 : Nat) : Int) = 3 from rfl] at F
  obtain ⟨AL, cL, ll, rfl⟩ : ∃ A c ll, vL = .slice A ll c := by obtain ⟨A, c, _, h, _⟩ := hL; exact ⟨A, c, _, h⟩
  obtain ⟨AD, cD, ld, rfl⟩ : ∃ A c ld, vD = .slice A ld c := by obtain ⟨A, c, h, _⟩ := hD; exact ⟨A, c, _, h⟩
  have HKN := Lib.hid hKn
  have HE := Lib.hid hE
  have HK := Lib.hid hK
  have HD := Lib.hid hD
  have HN0 := Lib.hid hn0
  have hn12 : n ≤ 12 := by omega
  have hnn : n ≤ n0 := by omega
  have hmin : min (n0 : Int) 12 = (n : Int) := by omega
  have HN := Lib.hid hn
  clear hL hD hK0 hK1 hn0 hn hK hKn hE
  go_enter Try.func7, Try.ntmps7
  go_wp2_with (first
    | (go_at_call 9; (with_reducible refine (AW.out _).mono ?_); rintro e w1 ⟨rfl, hC1⟩; have HC1 := Lib.hid hC1; clear hC1)
    | (go_at_call 10; (with_reducible refine (F.out _ HC1.out).mono ?_); rintro e w2 ⟨A2, c2, rfl, hk2, hC2, hcap⟩; have HK2 := Lib.hid hk2; have HC2 := Lib.hid (HC1.out.trans hC2); clear hk2 hC2))
  have HKK := Lib.hid (show KeysAt w2 (.slice A2 n c2) K from by rw [HK.out]; exact HK2.out.take (by rw [← HN0.out]; exact hnn))
  have HDD := Lib.hid (HD.out.chg HC2.out)
  have HB := Lib.hid (fun (j : Nat) (hj : j < n) => HKK.out.at_ (j := j) (by rw [HKN.out]; exact hj))
  have hlen3 : ∀ (j : Nat) (r : List Vl), K[j]? = some r → r.length = 3 := fun j r h => HE.out r (List.mem_of_getElem? h)
  have HL3 := Lib.hid hlen3
  clear hmin hcap hlen3
  go_loopw [24] (fun i wr => ∃ j : Nat, i = .int .i64 j ∧ j ≤ n ∧ Chg [] w2 wr) (fun i _ => n - (intOf i).toNat)
  case atStart => exact ⟨0, rfl, by omega, Chg.refl [] w2⟩
  case round =>
    obtain ⟨j, rfl, hj, hC⟩ := hrel
    have HCA := Lib.hid hC
    clear hC
    by_cases hlt : j < n
    · obtain ⟨b, off, A3, c3, ra, hA2, hra, xa, rowa⟩ := HB.out j hlt
      subst hA2
      have la := HL3.out j ra hra
      rw [la] at xa rowa
      have xa' := HCA.out.cell xa (by simp)
      have HRA := Lib.hid rowa
      have hla : ra.length ≤ 1000 := by omega
      have hji : (j : Int) < (n : Int) := by omega
      have HLA := Lib.hid la
      clear xa rowa hra la
      go_wp2_with fail
      obtain ⟨wa, hwa⟩ : ∃ wa : World, wa = wr := ⟨_, rfl⟩
      subst hwa
      go_loopw [30] (fun i wr => ∃ q : Nat, i = .int .i64 q ∧ q ≤ n ∧ Chg [] w2 wr) (fun i _ => n - (intOf i).toNat)
      case atStart => exact ⟨0, rfl, by omega, HCA.out⟩
      case round =>
        obtain ⟨q, rfl, hq, hC⟩ := hrel
        have HCB := Lib.hid hC
        clear hC
        by_cases hlq : q < n
        · obtain ⟨b', off', A4, c4, rb, hA2, hrb, xb, rowb⟩ := HB.out q hlq
          injection hA2 with hA2
          injection hA2 with hA2 hA3
          subst hA2 hA3
          have lb := HL3.out q rb hrb
          rw [lb] at xb rowb
          have xb' := HCB.out.cell xb (by simp)
          have HRB := Lib.hid rowb
          have hqi : (q : Int) < (n : Int) := by omega
          have C1 := Lib.hid (less_rows HRA.out HRB.out HDD.out hla)
          have hlb : rb.length ≤ 1000 := by omega
          have C2 := Lib.hid (less_rows HRB.out HRA.out HDD.out hlb)
          have HLB := Lib.hid lb
          clear xb rowb hrb lb
          cases hab : lessK ra rb d with
          | false =>
            rw [hab] at C1
            go_wp2_with (first
              | (go_at_call 17; (with_reducible refine (C1.out _ HCB.out).mono ?_); rintro e w3 ⟨rfl, hC⟩; have HC3 := Lib.hid (HCB.out.trans hC); clear hC))
            go_loopw [47] (fun i wr => ∃ t : Nat, i = .int .i64 t ∧ t ≤ n ∧ Chg [] w2 wr) (fun i _ => n - (intOf i).toNat)
            case atStart => exact ⟨0, rfl, by omega, HC3.out⟩
            case round =>
              obtain ⟨t, rfl, ht, hC⟩ := hrel
              have HCT := Lib.hid hC
              clear hC
              by_cases hlt' : t < n
              · obtain ⟨b', off', A5, c5, rc, hA2, hrc, xc, rowc⟩ := HB.out t hlt'
                injection hA2 with hA2
                injection hA2 with hA2 hA3
                subst hA2 hA3
                have xc' := HCT.out.cell xc (by simp)
                have hti : (t : Int) < (n : Int) := by omega
                clear xc rowc hrc
                go_wp2_with fail
                go_roundw
                case measure => simp [intOf]; omega
                case rel => exact ⟨t + 1, by go_num, by omega, HCT.out⟩
              · go_wp2_with fail
                go_roundw
                case measure => simp [intOf]; omega
                case rel => exact ⟨q + 1, by go_num, by omega, HCT.out⟩
          | true =>
            rw [hab] at C1
            rw [lessK_asymm hab] at C2
            have HAB := Lib.hid hab
            clear hab
            go_wp2_with (first
              | (go_at_call 17; (with_reducible refine (C1.out _ HCB.out).mono ?_); rintro e w3 ⟨rfl, hC⟩; have HC3 := Lib.hid (HCB.out.trans hC); clear hC)
              | (go_at_call 17; (with_reducible refine (C2.out _ HC3.out).mono ?_); rintro e w4 ⟨rfl, hC⟩; have HC4 := Lib.hid (HC3.out.trans hC); clear hC))
            go_loopw [47] (fun i wr => ∃ t : Nat, i = .int .i64 t ∧ t ≤ n ∧ Chg [] w2 wr) (fun i _ => n - (intOf i).toNat)
            case atStart => exact ⟨0, rfl, by omega, HC4.out⟩
            case round =>
              obtain ⟨t, rfl, ht, hC⟩ := hrel
              have HCT := Lib.hid hC
              clear hC
              by_cases hlt' : t < n
              · obtain ⟨b', off', A5, c5, rc, hA2, hrc, xc, rowc⟩ := HB.out t hlt'
                injection hA2 with hA2
                injection hA2 with hA2 hA3
                subst hA2 hA3
                have lc := HL3.out t rc hrc
                rw [lc] at xc rowc
                have xc' := HCT.out.cell xc (by simp)
                have hti : (t : Int) < (n : Int) := by omega
                have C3 := Lib.hid (less_rows HRB.out rowc HDD.out hlb)
                have C4 := Lib.hid (less_rows HRA.out rowc HDD.out hla)
                have htr : lessK rb rc d = true → lessK ra rc d = true := fun h => lessK_trans HAB.out h (by rw [HLA.out, lc])
                clear xc rowc hrc lc
                cases hbc : lessK rb rc d with
                | false =>
                  rw [hbc] at C3
                  clear htr hbc
                  go_wp2_with (first
                    | (go_at_call 17; (with_reducible refine (C3.out _ HCT.out).mono ?_); rintro e w5 ⟨rfl, hC⟩; have HC5 := Lib.hid (HCT.out.trans hC); clear hC))
                  go_roundw
                  case measure => simp [intOf]; omega
                  case rel => exact ⟨t + 1, by go_num, by omega, HC5.out⟩
                | true =>
                  rw [hbc] at C3
                  rw [htr hbc] at C4
                  clear htr hbc
                  go_wp2_with (first
                    | (go_at_call 17; (with_reducible refine (C3.out _ HCT.out).mono ?_); rintro e w5 ⟨rfl, hC⟩; have HC5 := Lib.hid (HCT.out.trans hC); clear hC)
                    | (go_at_call 17; (with_reducible refine (C4.out _ HC5.out).mono ?_); rintro e w6 ⟨rfl, hC⟩; have HC6 := Lib.hid (HC5.out.trans hC); clear hC))
                  go_roundw
                  case measure => simp [intOf]; omega
                  case rel => exact ⟨t + 1, by go_num, by omega, HC6.out⟩
              · go_wp2_with fail
                go_roundw
                case measure => simp [intOf]; omega
                case rel => exact ⟨q + 1, by go_num, by omega, HCT.out⟩
        · go_wp2_with fail
          go_roundw
          case measure => simp [intOf]; omega
          case rel => exact ⟨j + 1, by go_num, by omega, HCB.out⟩
    · go_wp2_with fail
      go_ret
      exact ⟨rfl, HC2.out.trans HCA.out⟩
end Go.Proofs.Ytkdhhafoohnlnaa
