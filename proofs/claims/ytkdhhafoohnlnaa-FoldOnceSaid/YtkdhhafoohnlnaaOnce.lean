/-
  The walk of the statement FoldOnce.
-/
import Derived.Test.YtkdhhafoohnlnaaLimit
import Derived.Test.YtkdhhafoohnlnaaStb
import Derived.Test.YtkdhhafoohnlnaaSrt4
namespace Go.Proofs.Ytkdhhafoohnlnaa
open Go.RowKit

set_option maxRecDepth 100000 in
set_option maxHeartbeats 8000000 in
theorem foldOnce {w : World} {vL vD : Value} {L : List (List Vl)} {d : List Bool} {most : Int} (hL : KeysAt w vL L) (hD : BoolAt w vD d) (hm0 : -9223372036854775808 ≤ most) (hm1 : most ≤ 9223372036854775807) : Calls Try.prog 8 #[vL, vD, .int .i64 most] w fun e w' => e = .returned (.bool true) ∧ Chg [] w w' := by
  have AW := Lib.hid awake9
  have F := Lib.hid (fun (w0 : World) (hC : Chg [] w w0) => few10 (n := 2) (hL.chg hC) (by omega))
  have hK0 := fewK_len 2 L
  have hK1 : (fewK 2 L).length ≤ 1000 := by omega
  have hK2 : ∀ r, r ∈ fewK 2 L → r.length ≤ 1000 := fun r hr => by rw [fewK_even 2 L r hr]; omega
  have hE := fewK_even 2 L
  obtain ⟨K, hK⟩ : ∃ K, K = fewK 2 L := ⟨_, rfl⟩
  rw [← hK] at F hK0 hK1 hK2 hE
  rw [show ((2 : Nat) : Int) = 2 from rfl] at F
  obtain ⟨n, hn⟩ : ∃ n, n = K.length := ⟨_, rfl⟩
  rw [← hn] at F
  have S := Lib.hid (fun (w0 : World) (v : Value) (h : KeysAt w0 v K) (hC : Chg [] w w0) => (sort_any (stable_all (by rw [← hn]; omega)) h (hD.chg hC) hK1 hK2 hE).mono (R' := fun e w' => ∃ A c l, e = .returned (.slice A n c) ∧ NatsAt w' (.slice A n c) l ∧ l.Perm (List.range n) ∧ Chg [] w0 w') (fun e w' h => by obtain ⟨A, c, l, h1, h2, h3, h4, h5, _⟩ := h; rw [← hn] at h1 h2 h3; exact ⟨A, c, l, h1, h2, h3, h5⟩))
  obtain ⟨out, hout⟩ : ∃ out, out = grpN K K.length := ⟨_, rfl⟩
  obtain ⟨k, hk⟩ : ∃ k, k = out.length := ⟨_, rfl⟩
  have hg1 := grpN_le K K.length
  rw [← hout] at hg1
  have G := Lib.hid (fun (w0 : World) (v : Value) (h : KeysAt w0 v K) => (groups_any h hK1 hK2).mono (R' := fun e w' => ∃ A c vs, e = .returned (.slice A k c) ∧ GAt w' (.slice A k c) out vs ∧ Chg [] w0 w') (fun e w' h => by rw [hk]; rw [← hout] at h; exact h))
  have hgp : out.flatten.Perm (List.range n) := by rw [hout, hn]; exact grp_perm K K.length
  obtain ⟨AL, cL, ll, rfl⟩ : ∃ A c ll, vL = .slice A ll c := by obtain ⟨A, c, _, h, _⟩ := hL; exact ⟨A, c, _, h⟩
  obtain ⟨AD, cD, ld, rfl⟩ : ∃ A c ld, vD = .slice A ld c := by obtain ⟨A, c, h, _⟩ := hD; exact ⟨A, c, _, h⟩
  have HG1 := Lib.hid hg1
  have HKK := Lib.hid hk
  have HGP := Lib.hid hgp
  have HN := Lib.hid hn
  have hn40 : n ≤ 40 := by omega
  have hk40 : k ≤ 40 := by omega
  have hfl : out.flatten.length = n := by rw [hgp.length_eq, List.length_range]
  have HFL := Lib.hid hfl
  have HLI := Lib.hid (fun (w0 : World) => limit20 n most w0 (by omega) hm0 hm1)
  have HLG := Lib.hid (fun (w0 : World) => limit20_neg most w0 hm0 hm1)
  have hmm := @run_makeMap Try.prog
  clear hL hD hK hK0 hK1 hK2 hE hn hfl hout hk hg1 hgp
  go_enter Try.func8, Try.ntmps8
  go_wp2_with (first
    | (go_at_call 9; (with_reducible refine (AW.out _).mono ?_); rintro e w1 ⟨rfl, hC1⟩; have HC1 := Lib.hid hC1; clear hC1)
    | (go_at_call 10; (with_reducible refine (F.out _ HC1.out).mono ?_); rintro e w2 ⟨A2, c2, rfl, hk2, hC2⟩; have HK2 := Lib.hid hk2; have HC2 := Lib.hid (HC1.out.trans hC2); have HM0 := Lib.hid (IMap.made w2); clear hk2 hC2)
    | (go_at_call 14; (with_reducible refine (S.out _ _ (HK2.out.chg ((Chg.refl [] w2).alloc _)) (HC2.out.alloc _)).mono ?_); rintro e w3 ⟨A3, c3, l1, rfl, hn3, hp3, hC3⟩; have HN3 := Lib.hid hn3; have HP3 := Lib.hid hp3; have HM3 := Lib.hid (HM0.out.chg hC3 (by simp)); have HK3 := Lib.hid ((HK2.out.chg ((Chg.refl [] w2).alloc _)).chg hC3); have HC3 := Lib.hid ((HC2.out.alloc _).trans hC3); clear hn3 hp3 hC3))
  obtain ⟨bm, hbm⟩ : ∃ bm, bm = w2.heap.size := ⟨_, rfl⟩
  rw [← hbm] at HM3 ⊢
  have HBM : Hid (w.heap.size ≤ bm) := Lib.hid (by rw [hbm]; exact HC2.out.size)
  have HL1 : Hid (l1.length = n) := Lib.hid (by rw [HP3.out.length_eq, List.length_range])
  have HND : Hid l1.Nodup := Lib.hid (HP3.out.nodup_iff.2 List.nodup_range)
  clear hbm
  go_loopw [26] (fun i wr => ∃ (t : Nat) (f : Nat → Nat) (p : Nat → Bool), i = .int .i64 t ∧ t ≤ n ∧ IMap wr bm t f p t ∧ C1 l1 t f p ∧ Chg [bm] w3 wr) (fun i _ => n - (intOf i).toNat)
  case atStart => exact ⟨0, _, _, rfl, by omega, HM3.out, C1.start l1, Chg.refl _ w3⟩
  case round =>
    obtain ⟨t, f, p, rfl, ht, hM, hc1, hC⟩ := hrel
    have HMA := Lib.hid hM
    have HCC := Lib.hid hc1
    have HCA := Lib.hid hC
    clear hM hc1 hC
    by_cases hlt : t < n
    · obtain ⟨x, hx⟩ : ∃ x, l1[t]? = some x := ⟨_, List.getElem?_eq_getElem (by rw [HL1.out]; exact hlt)⟩
      obtain ⟨g3, d3, hv3, x3⟩ := NatsAt.cell HN3.out hx
      injection hv3 with hv31 hv32 hv33
      subst hv31 hv33
      have z3 := (Keep.of_map HM3.out HCA.out) x3
      have hxn : x ≤ 1000000 := by have := List.mem_range.1 (HP3.out.mem_iff.1 (List.mem_of_getElem? hx)); omega
      obtain ⟨hf0, hp0, hst⟩ := HCC.out.step HND.out hx
      have HF0 := Lib.hid hf0
      have HP0 := Lib.hid hp0
      have HST := Lib.hid hst
      have HXN := Lib.hid hxn
      have HTN := Lib.hid (show t < 1000000 by omega)
      have H1N := Lib.hid (show 1 ≤ 1000000 by omega)
      have hti : (t : Int) < (n : Int) := by omega
      clear hx x3 hxn hf0 hp0 hst hv32
      go_wp2_with (first
        | (at_lookup; refine wpList_iget rfl (.tmp 30) (.tmp 31) rfl bm t t f p x 0 rfl rfl HMA.out HXN.out HF0.out ?_)
        | (at_mapUpdate; refine wpList_iput rfl (.tmp 30) (.tmp 31) (.tmp 33) rfl bm t t f p x 1 rfl rfl rfl HMA.out HTN.out HXN.out H1N.out ?_; intro w5 hm5 hC5; have HM5 := Lib.hid hm5; have HC5 := Lib.hid hC5; clear hm5 hC5))
      go_roundw
      case measure => simp [intOf]; omega
      case rel =>
        have := HM5.out
        rw [HP0.out] at this
        exact ⟨t + 1, _, _, by go_num, by omega, this, HST.out, HCA.out.trans HC5.out⟩
    · have hte : t = n := by omega
      subst hte
      have hc2 := C2.start HCC.out (by rw [HL1.out]; exact Nat.le_refl _)
      have HC2' := Lib.hid hc2
      have HKM := Lib.hid (HK3.out.keep (Keep.of_map HM3.out HCA.out))
      have HALL : Hid (Chg [] w wr) := Lib.hid (HC3.out.trans' HCA.out (fun x hx => .inr (by simp at hx; have := HBM.out; omega)))
      clear hc2 HCC
      go_wp2_with (first
        | (go_at_call 11; (with_reducible refine (G.out _ _ HKM.out).mono ?_); rintro e w4 ⟨A4, c4, vs4, rfl, hg4, hC4⟩; have HG4 := Lib.hid hg4; have HM4 := Lib.hid (HMA.out.chg hC4 (by simp)); have HC4 := Lib.hid (HALL.out.trans hC4); clear hg4 hC4))
      go_loopw [38] (fun i wr => ∃ (g c : Nat) (f : Nat → Nat) (p : Nat → Bool), i = .int .i64 g ∧ g ≤ k ∧ c = t + (pre out g 0).length ∧ IMap wr bm c f p t ∧ C2 l1 (pre out g 0) f p ∧ Chg [bm] w4 wr) (fun i _ => k - (intOf i).toNat)
      case atStart => exact ⟨0, t, _, _, rfl, by omega, by rw [pre_zero]; rfl, HM4.out, by rw [pre_zero]; exact HC2'.out, Chg.refl _ w4⟩
      case round =>
        obtain ⟨g, c, f, p, rfl, hg, hcc, hM, hc2, hC⟩ := hrel
        have HMB := Lib.hid hM
        have HCC := Lib.hid hc2
        have HCB := Lib.hid hC
        have HCN := Lib.hid hcc
        clear hM hc2 hC hcc
        by_cases hlt : g < k
        · obtain ⟨gb, ub, cu, l, hA4, hl, xg, xl⟩ := HG4.out.cells (g := g) (by rw [← HKK.out]; exact hlt)
          subst hA4
          have xg' := (Keep.of_map HM4.out HCB.out) xg
          have XL := Lib.hid xl
          have HL := Lib.hid hl
          obtain ⟨m, hm⟩ : ∃ m, m = l.length := ⟨_, rfl⟩
          rw [← hm] at xg'
          have hm40 : m ≤ 40 := by have := (HG1.out.2 l (List.mem_of_getElem? hl)).1; rw [← HN.out] at this; omega
          have HMM := Lib.hid hm
          have hgi : (g : Int) < (k : Int) := by omega
          clear xg xl hl hm
          go_wp2_with fail
          go_loopw [44] (fun i wr => ∃ (q c : Nat) (f : Nat → Nat) (p : Nat → Bool), i = .int .i64 q ∧ q ≤ m ∧ c = t + (pre out g q).length ∧ IMap wr bm c f p t ∧ C2 l1 (pre out g q) f p ∧ Chg [bm] w4 wr) (fun i _ => m - (intOf i).toNat)
          case atStart => exact ⟨0, c, f, p, rfl, by omega, HCN.out, HMB.out, HCC.out, HCB.out⟩
          case round =>
            obtain ⟨q, c, f, p, rfl, hq, hcc, hM, hc2, hC⟩ := hrel
            have HMD := Lib.hid hM
            have HCD := Lib.hid hc2
            have HCE := Lib.hid hC
            have HCM := Lib.hid hcc
            clear hM hc2 hC hcc
            by_cases hlq : q < m
            · obtain ⟨x, hx⟩ : ∃ x, l[q]? = some x := ⟨_, List.getElem?_eq_getElem (by rw [← HMM.out]; exact hlq)⟩
              have xx := (Keep.of_map HM4.out HCE.out) (XL.out q x hx)
              have hps := pre_step HL.out hx
              have hxf : x ∈ out.flatten := List.mem_flatten.2 ⟨l, List.mem_of_getElem? HL.out, List.mem_of_getElem? hx⟩
              have hxr := List.mem_range.1 (HGP.out.mem_iff.1 hxf)
              have hx1 : x ∈ l1 := HP3.out.mem_iff.2 (List.mem_range.2 hxr)
              obtain ⟨hpx, hfx, hst⟩ := HCD.out.step hx1
              have hpl : (pre out g q).length ≤ t := by have := pre_len (t := q) HL.out; rw [HFL.out] at this; exact this
              have hl1 := HL1.out
              obtain ⟨v, hv⟩ : ∃ v, v = f x := ⟨_, rfl⟩
              rw [← hv] at hfx hst
              obtain ⟨v1, hv1⟩ : ∃ v1, v1 = v + 1 := ⟨_, rfl⟩
              rw [← hv1] at hst
              have s1 : (v : Int) + 1 = (v1 : Int) := by omega
              have s2 : IntKind.i64.wrap (v1 : Int) = (v1 : Int) := IntWalk.i64_in _ (by omega)
              have hcs : c < 1000000 := by have := HCM.out; omega
              have HPX := Lib.hid hpx
              have HST := Lib.hid hst
              have HV := Lib.hid hv.symm
              have HXN := Lib.hid (show x ≤ 1000000 by omega)
              have HCS := Lib.hid hcs
              have HV1 := Lib.hid (show v1 ≤ 1000000 by omega)
              have HPS := Lib.hid hps
              have hqi : (q : Int) < (m : Int) := by omega
              clear hx hps hxf hxr hx1 hpx hfx hst hpl hl1 hv hv1 hcs
              go_wp2_with (first
                | (at_lookup; refine wpList_iget rfl (.tmp 48) (.tmp 49) rfl bm c t f p x v rfl rfl HMD.out HXN.out HV.out ?_)
                | (at_mapUpdate; refine wpList_iput rfl (.tmp 48) (.tmp 49) (.tmp 51) rfl bm c t f p x v1 rfl rfl rfl HMD.out HCS.out HXN.out HV1.out ?_; intro w5 hm5 hC5; have HM5 := Lib.hid hm5; have HC5 := Lib.hid hC5; clear hm5 hC5))
              go_roundw
              case measure => simp [intOf]; omega
              case rel =>
                have := HM5.out
                rw [HPX.out] at this
                exact ⟨q + 1, c + 1, _, _, by go_num, by omega, by rw [HPS.out]; have := HCM.out; simp; omega, this, by rw [HPS.out]; exact HST.out, HCE.out.trans HC5.out⟩
            · have hqe : q = m := by omega
              have hnx : pre out (g + 1) 0 = pre out g q := by rw [hqe, HMM.out]; exact pre_next HL.out
              have HNX := Lib.hid hnx
              clear hnx
              go_wp2_with fail
              go_roundw
              case measure => simp [intOf]; omega
              case rel => exact ⟨g + 1, c, f, p, by go_num, by omega, by rw [HNX.out]; exact HCM.out, HMD.out, by rw [HNX.out]; exact HCD.out, HCE.out⟩
        · have hge : g = k := by omega
          subst hge
          have hdone : ∀ i, i < t → f i = 2 := by
            intro i hi
            have h := HCC.out
            rw [HKK.out, pre_done] at h
            exact h.done HP3.out HGP.out hi
          have HDONE := Lib.hid hdone
          have HFIN : Hid (Chg [] w wr) := Lib.hid (HC4.out.trans' HCB.out (fun x hx => .inr (by simp at hx; have := HBM.out; omega)))
          obtain ⟨wm, hwm⟩ : ∃ wm : World, wm = wr := ⟨_, rfl⟩
          subst hwm
          clear hdone
          go_wp2_with fail
          go_loopw [56] (fun i wr => ∃ j : Nat, i = .int .i64 j ∧ j ≤ t ∧ Chg [] wm wr) (fun i _ => t - (intOf i).toNat)
          case atStart => exact ⟨0, rfl, by omega, Chg.refl [] wm⟩
          case round =>
            obtain ⟨j, rfl, hj, hCx⟩ := hrel
            have HCX := Lib.hid hCx
            have HMX := Lib.hid (HMB.out.chg hCx (by simp))
            clear hCx
            by_cases hjt : j < t
            · have HF2 := Lib.hid (HDONE.out j hjt)
              have HJN := Lib.hid (show j ≤ 1000000 by omega)
              have hji : (j : Int) < (t : Int) := by omega
              go_wp2_with (first
                | (at_lookup; refine wpList_iget rfl (.tmp 59) (.tmp 60) rfl bm c t f p j 2 rfl rfl HMX.out HJN.out HF2.out ?_))
              go_roundw
              case measure => simp [intOf]; omega
              case rel => exact ⟨j + 1, by go_num, by omega, HCX.out⟩
            · have hlim := HLI.out
              unfold limI at hlim
              by_cases q1 : most < 0
              · simp only [if_pos q1] at hlim
                have HLI' := Lib.hid hlim
                have e1 : decide (most < 0) = true := by simpa using q1
                clear hlim
                go_wp2_with (first
                  | (go_at_call 20; (with_reducible refine (HLI'.out _).mono ?_); rintro e w8 ⟨rfl, rfl⟩)
                  | (go_at_call 20; (with_reducible refine (HLG.out _).mono ?_); rintro e w8 ⟨rfl, rfl⟩)
                  | (at_len; refine wpList_ilen rfl (.tmp 68) rfl bm c t f p rfl HMX.out ?_))
                go_ret
                exact ⟨rfl, HFIN.out.trans HCX.out⟩
              · simp only [if_neg q1] at hlim
                have e1 : decide (most < 0) = false := by simpa using q1
                have e2 : 0 ≤ most := by omega
                by_cases q2 : (t : Int) < most
                · simp only [if_pos q2] at hlim
                  have HLI' := Lib.hid hlim
                  have e3 : ¬ (t : Int) = most := by omega
                  have e4 : ((t : Int) == most) = false := by simpa using e3
                  clear hlim
                  go_wp2_with (first
                    | (go_at_call 20; (with_reducible refine (HLI'.out _).mono ?_); rintro e w8 ⟨rfl, rfl⟩)
                    | (go_at_call 20; (with_reducible refine (HLG.out _).mono ?_); rintro e w8 ⟨rfl, rfl⟩)
                    | (at_len; refine wpList_ilen rfl (.tmp 68) rfl bm c t f p rfl HMX.out ?_))
                  go_ret
                  exact ⟨rfl, HFIN.out.trans HCX.out⟩
                · simp only [if_neg q2] at hlim
                  have HLI' := Lib.hid hlim
                  have e3 : most ≤ (t : Int) := by omega
                  clear hlim
                  go_wp2_with (first
                    | (go_at_call 20; (with_reducible refine (HLI'.out _).mono ?_); rintro e w8 ⟨rfl, rfl⟩)
                    | (go_at_call 20; (with_reducible refine (HLG.out _).mono ?_); rintro e w8 ⟨rfl, rfl⟩)
                    | (at_len; refine wpList_ilen rfl (.tmp 68) rfl bm c t f p rfl HMX.out ?_))
                  go_ret
                  exact ⟨rfl, HFIN.out.trans HCX.out⟩
end Go.Proofs.Ytkdhhafoohnlnaa
