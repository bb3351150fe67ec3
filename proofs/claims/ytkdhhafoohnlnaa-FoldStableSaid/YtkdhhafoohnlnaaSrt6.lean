/-
  The walk of the reference's Sort.
-/
import Derived.Test.YtkdhhafoohnlnaaSrt5
import Derived.Deep.RegionLaw
import Derived.Outline
namespace Go.Proofs.Ytkdhhafoohnlnaa
open Go.RowKit

set_option maxRecDepth 100000 in
set_option maxHeartbeats 8000000 in
theorem rsort_any {w : World} {vK vD : Value} {K : List (List Vl)} {d : List Bool} {c : Nat} (hK : KeysAt w vK K) (hD : BoolAt w vD d) (hKl : K.length ≤ 1000) (hlen : ∀ r, r ∈ K → r.length ≤ 1000) (he : Even K c) :
    Calls Try.prog 15 #[vK, vD] w fun e w' => SortOf w K d e w' := by
  obtain ⟨AK, cK, hvK⟩ : ∃ A c, vK = .slice A K.length c := by obtain ⟨A, c, _, h, _⟩ := hK; exact ⟨A, c, h⟩
  obtain ⟨AD, cD, hvD⟩ : ∃ A c, vD = .slice A d.length c := by obtain ⟨A, c, h, _⟩ := hD; exact ⟨A, c, h⟩
  obtain ⟨n, hn⟩ : ∃ n, n = K.length := ⟨_, rfl⟩
  obtain ⟨ld, hld⟩ : ∃ n, n = d.length := ⟨_, rfl⟩
  unfold SortOf
  rw [← hn] at hvK hKl ⊢
  rw [← hld] at hvD
  subst hvK hvD
  have HK := Lib.hid hK
  have HD := Lib.hid hD
  have HN := Lib.hid hn
  have HLEN := Lib.hid hlen
  have HE := Lib.hid he
  clear hK hD hn hld hlen he
  go_enter Try.func15, Try.ntmps15
  go_wp2_with fail
  go_loopw [5, 10] (fun v i wr => ∃ (j : Nat) (l : List Nat), i = .int .i64 j ∧ j ≤ n ∧ Own wr 3 1 v j (nats l) ∧ l.Perm (List.range j) ∧ l.Pairwise (TT K d) ∧ Chg [] w wr ∧ (∀ k, v.ownBlock = some k → w.heap.size ≤ k)) (fun _ i _ => n - (intOf i).toNat)
  case atStart => exact ⟨0, [], rfl, by omega, ⟨rfl, .inl ⟨rfl, rfl⟩⟩, by simp, by simp, Chg.refl [] w, by simp [Value.ownBlock]⟩
  case round =>
    obtain ⟨j, l, rfl, hj, hO, hp, hs, hCr, hv⟩ := hrel
    obtain ⟨A0, c0, rfl⟩ := hO.form'
    have HO := Lib.hid hO
    have HP := Lib.hid hp
    have HS := Lib.hid hs
    have HCR := Lib.hid hCr
    have HV := Lib.hid hv
    have hll : l.length = j := by rw [hp.length_eq, List.length_range]
    have HLL := Lib.hid hll
    clear hO hp hs hCr hv hll
    by_cases hlt : j < n
    · have hji : (j : Int) < (n : Int) := by omega
      obtain ⟨wo, hwo⟩ : ∃ wo : World, wo = wr := ⟨_, rfl⟩
      subst hwo
      go_upto_block 2 with fail
      go_cut [7] (fun s7 wx => ∃ t : Nat, s7 = .int .i64 t ∧ t ≤ j ∧ (∀ x, x ∈ l.drop t → ltI K d j x = true) ∧ (t = 0 ∨ ∃ x, l[t - 1]? = some x ∧ ltI K d j x = false) ∧ Chg [] wo wx)
      case first =>
        go_wp2_with fail
        go_loopw [7] (fun i wr => ∃ t : Nat, i = .int .i64 t ∧ t ≤ j ∧ (∀ x, x ∈ l.drop t → ltI K d j x = true) ∧ Chg [] wo wr) (fun i _ => (intOf i).toNat)
        case atStart => exact ⟨j, rfl, Nat.le_refl _, by rw [List.drop_of_length_le (by rw [HLL.out]; exact Nat.le_refl _)]; simp, Chg.refl [] wo⟩
        case round =>
          obtain ⟨t, rfl, ht, hd, hC⟩ := hrel
          have HCT := Lib.hid hC
          have HDR := Lib.hid hd
          clear hC hd
          by_cases ht0 : 0 < t
          · obtain ⟨t1, ht1⟩ : ∃ t1, t1 = t - 1 := ⟨_, rfl⟩
            obtain ⟨x, hx⟩ : ∃ x, l[t1]? = some x := ⟨_, List.getElem?_eq_getElem (by rw [HLL.out]; omega)⟩
            obtain ⟨g, rfl⟩ : ∃ g, A0 = some ⟨g, 0, none⟩ := by
              rcases HO.out.2 with ⟨h, h1⟩ | ⟨g', cap', cur, he, _⟩
              · omega
              · injection he with he1; exact ⟨g', he1⟩
            have hxj : x < j := List.mem_range.1 (HP.out.mem_iff.1 (List.mem_of_getElem? hx))
            have xo : wr.cell? ⟨g, t1, none⟩ = some (.int .i64 x) := by
              have := World.ownsRow.cells HO.out (g := g) rfl t1 (.int .i64 x) (nats_get hx)
              rw [Go.WideShapes.add_plain] at this
              simp only [Nat.zero_add] at this
              exact HCT.out.cell this (by simp)
            obtain ⟨b, off, cc, u, v, he, hu, hv, hcall⟩ := rless_at (HK.out.chg HCR.out) (HD.out.chg HCR.out) HLEN.out (show j < K.length by rw [← HN.out]; exact hlt) (show x < K.length by rw [← HN.out]; omega)
            injection he with he1 he2 he3
            subst he1 he3
            have xu := HCT.out.cell hu (by simp)
            have xv := HCT.out.cell hv (by simp)
            obtain ⟨s, hs⟩ : ∃ s, s = ltI K d j x := ⟨_, rfl⟩
            rw [← hs] at hcall
            have HCALL := Lib.hid hcall
            have HSX := Lib.hid hs
            have HX := Lib.hid hx
            have HT1 := Lib.hid ht1
            have hti : (0 : Int) < (t : Int) := by omega
            have t2 : (t : Int) - 1 = (t1 : Int) := by omega
            have t3 : IntKind.i64.wrap (t1 : Int) = (t1 : Int) := IntWalk.i64_in _ (by omega)
            have t4 : (0 : Int) ≤ (t1 : Int) := by omega
            have t5 : (t1 : Int) < (j : Int) := by omega
            have hxi : (x : Int) < (n : Int) := by omega
            clear hcall hs hx ht1 hu hv he2
            cases s with
            | true =>
              go_wp2_with fail
              go_region_held3 (fun w' => w'.cell? ⟨b, off + j, none⟩ = some u ∧ w'.cell? ⟨b, off + x, none⟩ = some v ∧ w'.cell? ⟨g, t1, none⟩ = some (.int .i64 x)) (first | with_reducible exact ⟨xu, xv, xo⟩ | with_reducible exact ⟨yu, yv, yo⟩ | go_keep)
                (first
                 | (go_at_call 18; (with_reducible refine (HCALL.out _ (by first | exact HCT.out.drew | exact HCT.out.same)).mono ?_); rintro e w2 ⟨rfl, hC2⟩; have yu := hC2.cell (p := ⟨b, off + j, none⟩) (by exact xu) (by simp); have yv := hC2.cell (p := ⟨b, off + x, none⟩) (by exact xv) (by simp); have yo := hC2.cell (p := ⟨g, t1, none⟩) (by exact xo) (by simp); have HCC := Lib.hid (Chg.trans (S := []) (a := wo) (by first | exact HCT.out.drew | exact HCT.out.same) hC2); clear hC2))
              go_wp2_with fail
              go_roundw
              case measure => simp [intOf]; omega
              case rel =>
                refine ⟨t1, rfl, by omega, ?_, HCC.out⟩
                intro y hy
                rw [List.drop_eq_getElem_cons (by rw [HLL.out]; omega)] at hy
                rcases List.mem_cons.1 hy with e | e
                · have h1 := HX.out
                  rw [List.getElem?_eq_getElem (by rw [HLL.out]; omega)] at h1
                  injection h1 with h1
                  rw [e, h1]; exact HSX.out.symm
                · exact HDR.out y (by rw [show t = t1 + 1 by omega]; exact e)
            | false =>
              go_wp2_with fail
              go_region_held3 (fun w' => w'.cell? ⟨b, off + j, none⟩ = some u ∧ w'.cell? ⟨b, off + x, none⟩ = some v ∧ w'.cell? ⟨g, t1, none⟩ = some (.int .i64 x)) (first | with_reducible exact ⟨xu, xv, xo⟩ | with_reducible exact ⟨yu, yv, yo⟩ | go_keep)
                (first
                 | (go_at_call 18; (with_reducible refine (HCALL.out _ (by first | exact HCT.out.drew | exact HCT.out.same)).mono ?_); rintro e w2 ⟨rfl, hC2⟩; have yu := hC2.cell (p := ⟨b, off + j, none⟩) (by exact xu) (by simp); have yv := hC2.cell (p := ⟨b, off + x, none⟩) (by exact xv) (by simp); have yo := hC2.cell (p := ⟨g, t1, none⟩) (by exact xo) (by simp); have HCC := Lib.hid (Chg.trans (S := []) (a := wo) (by first | exact HCT.out.drew | exact HCT.out.same) hC2); clear hC2))
              go_wp2_with fail
              go_meet
              exact ⟨t, rfl, ht, HDR.out, .inr ⟨x, by rw [← HT1.out]; exact HX.out, HSX.out.symm⟩, HCC.out⟩
          · have h0 : t = 0 := by omega
            subst h0
            go_wp2_with fail
            go_quiet (fail)
            go_wp2_with fail
            go_meet
            exact ⟨0, rfl, by omega, HDR.out, .inl rfl, HCT.out.drewN _⟩
      case rest =>
        obtain ⟨t, rfl, ht, hd, hx, hCc⟩ := hcut
        obtain ⟨hp', hs'⟩ := ins_ref HE.out HP.out HS.out (by rw [← HN.out]; exact hlt) hd hx
        have HP' := Lib.hid hp'
        have HS' := Lib.hid hs'
        have HCC := Lib.hid hCc
        have C1 : Hid (j + 1 ≤ maxLen) := Lib.hid (by unfold maxLen; omega)
        clear hp' hs' hd hx hCc
        rcases HO.out.shape with ⟨rfl, rfl, rfl⟩ | ⟨g, rfl, hcap⟩
        · obtain rfl : t = 0 := by omega
          have CT1 : Hid (0 + 1 ≤ 1000000) := Lib.hid (by omega)
          have CJ : Hid (0 + 1 ≤ 1000000) := Lib.hid (by omega)
          have SN : Hid (Src1 wc 1 (.slice none 0 0) 0 []) := Lib.hid ⟨rfl, by simp, .inl ⟨rfl, rfl⟩⟩
          have HFN : Hid ([] ++ [.int .i64 0] ++ [] = nats (l.take 0 ++ 0 :: l.drop 0)) := Lib.hid (by rw [List.length_eq_zero_iff.1 HLL.out]; rfl)
          go_wp2_with fail
          go_region_law (first
              | (refine step_gr (wc := wc) rfl (.tmp 39) (.tmp 41) rfl (.slice (some ⟨wc.heap.size, 0, none⟩) 0 0) 0 [] (by rfl) (by first | exact (Gr.start (Chg.refl [] _) (by first | rfl | simp)) | exact (Gr.start (Chg.refl [] _) (by first | rfl | simp)).still (Chg.refl [] _).drew | exact ((Gr.start (Chg.refl [] _) (by first | rfl | simp)).alloc _) | exact ((Gr.start (Chg.refl [] _) (by first | rfl | simp)).alloc _).still (Chg.refl [] _).drew | exact (Gr.start ((Chg.refl [] _).alloc _) (by first | rfl | simp)) | exact (Gr.start ((Chg.refl [] _).alloc _) (by first | rfl | simp)).still (Chg.refl [] _).drew) (.slice (some ⟨(wc.heap.size + 1), 0, none⟩) 1 1) 1 [.int .i64 0] (by rfl) (src_one rfl (by first | exact Chg.refl [] _ | exact (Chg.refl [] _).drew | exact (Chg.refl [] _).alloc _ | exact ((Chg.refl [] _).alloc _).drew | exact (Chg.refl [] _).drew.alloc _) (Chg.refl [] _) (by first | rfl | simp) (by simp)) (0 + 1) ([] ++ [.int .i64 0]) rfl rfl CT1.out ?_; intro A8 c8 w8 g8 k8; have HG8 := Lib.hid g8; clear g8 k8)
              | (refine step_gr (wc := wc) rfl (.tmp 39) (.tmp 41) rfl (.slice (some ⟨(wc.heap.size + 1), 0, none⟩) 0 0) 0 [] (by rfl) (by first | exact (Gr.start (Chg.refl [] _) (by first | rfl | simp)) | exact (Gr.start (Chg.refl [] _) (by first | rfl | simp)).still (Chg.refl [] _).drew | exact ((Gr.start (Chg.refl [] _) (by first | rfl | simp)).alloc _) | exact ((Gr.start (Chg.refl [] _) (by first | rfl | simp)).alloc _).still (Chg.refl [] _).drew | exact (Gr.start ((Chg.refl [] _).alloc _) (by first | rfl | simp)) | exact (Gr.start ((Chg.refl [] _).alloc _) (by first | rfl | simp)).still (Chg.refl [] _).drew) (.slice (some ⟨wc.heap.size, 0, none⟩) 1 1) 1 [.int .i64 0] (by rfl) (src_one rfl (by first | exact Chg.refl [] _ | exact (Chg.refl [] _).drew | exact (Chg.refl [] _).alloc _ | exact ((Chg.refl [] _).alloc _).drew | exact (Chg.refl [] _).drew.alloc _) (Chg.refl [] _) (by first | rfl | simp) (by simp)) (0 + 1) ([] ++ [.int .i64 0]) rfl rfl CT1.out ?_; intro A8 c8 w8 g8 k8; have HG8 := Lib.hid g8; clear g8 k8)
              | (refine step_gr_old (wc := wc) rfl (.tmp 42) (.tmp 45) rfl (.slice A8 (0 + 1) c8) (0 + 1) ([] ++ [.int .i64 0]) (by rfl) (by first | exact HG8.out | exact HG8.out.still (Chg.refl [] _).drew) (.slice none 0 0) 0 [] (by rfl) SN.out (0 + 1) ([] ++ [.int .i64 0] ++ []) (by omega) rfl CJ.out ?_; intro A9 c9 w9 g9 k9; have HG9 := Lib.hid g9; clear g9 k9)
              | fail)
          all_goals
            go_wp2_with fail
            go_roundw
            case measure => simp [intOf]; omega
            case rel => exact ⟨1, _, rfl, by omega, by rw [← HFN.out]; exact HG9.out.own, HP'.out, HS'.out, HCR.out.trans (HCC.out.trans HG9.out.chg), fun k hk => by have := HG9.out.new k hk; have := HCR.out.size; have := HCC.out.size; omega⟩
        · have hti : (t : Int) ≤ (j : Int) := by omega
          have hci : (t : Int) ≤ (c0 : Int) := by omega
          have hjci : (j : Int) ≤ (c0 : Int) := by omega
          have HOC := Lib.hid (HO.out.chg HCC.out (by simp))
          have S1 := Lib.hid (Src1.takeN (c := c0) HOC.out HLL.out ht)
          have S2 := Lib.hid (Src1.dropN' (c := c0 - t) HOC.out HLL.out ht)
          have CT : Hid (t ≤ 1000000) := Lib.hid (by omega)
          have CT1 : Hid (t + 1 ≤ 1000000) := Lib.hid (by omega)
          have CJ : Hid (j + 1 ≤ 1000000) := Lib.hid (by omega)
          have HFN : Hid (nats (l.take t) ++ [.int .i64 j] ++ nats (l.drop t) = nats (l.take t ++ j :: l.drop t)) := Lib.hid (by simp [nats])
          go_wp2_with fail
          go_region_law (first
              | (refine step_gr_old (wc := wc) rfl (.tmp 35) (.tmp 38) rfl (.slice (some ⟨wc.heap.size, 0, none⟩) 0 0) 0 [] (by rfl) (by first | exact (Gr.start (Chg.refl [] _) (by first | rfl | simp)) | exact (Gr.start (Chg.refl [] _) (by first | rfl | simp)).still (Chg.refl [] _).drew | exact ((Gr.start (Chg.refl [] _) (by first | rfl | simp)).alloc _) | exact ((Gr.start (Chg.refl [] _) (by first | rfl | simp)).alloc _).still (Chg.refl [] _).drew | exact (Gr.start ((Chg.refl [] _).alloc _) (by first | rfl | simp)) | exact (Gr.start ((Chg.refl [] _).alloc _) (by first | rfl | simp)).still (Chg.refl [] _).drew) (.slice (some ⟨g, 0, none⟩) t c0) t (nats (l.take t)) (by rfl) S1.out t (nats (l.take t)) (Nat.zero_add _) rfl CT.out ?_; intro A7 c7 w7 g7 k7; have HG7 := Lib.hid g7; have HK7 := Lib.hid k7; clear g7 k7)
              | (refine step_gr_old (wc := wc) rfl (.tmp 35) (.tmp 38) rfl (.slice (some ⟨(wc.heap.size + 1), 0, none⟩) 0 0) 0 [] (by rfl) (by first | exact (Gr.start (Chg.refl [] _) (by first | rfl | simp)) | exact (Gr.start (Chg.refl [] _) (by first | rfl | simp)).still (Chg.refl [] _).drew | exact ((Gr.start (Chg.refl [] _) (by first | rfl | simp)).alloc _) | exact ((Gr.start (Chg.refl [] _) (by first | rfl | simp)).alloc _).still (Chg.refl [] _).drew | exact (Gr.start ((Chg.refl [] _).alloc _) (by first | rfl | simp)) | exact (Gr.start ((Chg.refl [] _).alloc _) (by first | rfl | simp)).still (Chg.refl [] _).drew) (.slice (some ⟨g, 0, none⟩) t c0) t (nats (l.take t)) (by rfl) S1.out t (nats (l.take t)) (Nat.zero_add _) rfl CT.out ?_; intro A7 c7 w7 g7 k7; have HG7 := Lib.hid g7; have HK7 := Lib.hid k7; clear g7 k7)
              | (refine step_gr (wc := wc) rfl (.tmp 39) (.tmp 41) rfl (.slice A7 t c7) t (nats (l.take t)) (by rfl) (by first | exact HG7.out | exact HG7.out.alloc _ | exact HG7.out.still (Chg.refl [] _).drew | exact (HG7.out.alloc _).still (Chg.refl [] _).drew) (.slice (some ⟨w7.heap.size, 0, none⟩) 1 1) 1 [.int .i64 j] (by rfl) (Src1.one rfl) (t + 1) ((nats (l.take t)) ++ [.int .i64 j]) rfl rfl CT1.out ?_; intro A8 c8 w8 g8 k8; have HG8 := Lib.hid g8; clear g8 k8)
              | (refine step_gr (wc := wc) rfl (.tmp 39) (.tmp 41) rfl (.slice A7 t c7) t (nats (l.take t)) (by rfl) (by first | exact HG7.out | exact HG7.out.alloc _ | exact HG7.out.still (Chg.refl [] _).drew | exact (HG7.out.alloc _).still (Chg.refl [] _).drew) (.slice (some ⟨w7.heap.size, 0, none⟩) 1 1) 1 [.int .i64 j] (by rfl) (src_one rfl (by first | exact Chg.refl [] _ | exact (Chg.refl [] _).drew | exact (Chg.refl [] _).alloc _ | exact ((Chg.refl [] _).alloc _).drew | exact (Chg.refl [] _).drew.alloc _) (Chg.refl [] _) (by first | rfl | simp) (by simp)) (t + 1) ((nats (l.take t)) ++ [.int .i64 j]) rfl rfl CT1.out ?_; intro A8 c8 w8 g8 k8; have HG8 := Lib.hid g8; clear g8 k8)
              | (refine step_gr (wc := wc) rfl (.tmp 39) (.tmp 41) rfl (.slice A7 t c7) t (nats (l.take t)) (by rfl) (by first | exact HG7.out | exact HG7.out.alloc _ | exact HG7.out.still (Chg.refl [] _).drew | exact (HG7.out.alloc _).still (Chg.refl [] _).drew) (.slice (some ⟨(wc.heap.size + 1), 0, none⟩) 1 1) 1 [.int .i64 j] (by rfl) (src_one rfl (by first | exact Chg.refl [] _ | exact (Chg.refl [] _).drew | exact (Chg.refl [] _).alloc _ | exact ((Chg.refl [] _).alloc _).drew | exact (Chg.refl [] _).drew.alloc _) HK7.out (by first | rfl | simp) (by simp [Value.ownBlock])) (t + 1) ((nats (l.take t)) ++ [.int .i64 j]) rfl rfl CT1.out ?_; intro A8 c8 w8 g8 k8; have HG8 := Lib.hid g8; clear g8 k8)
              | (refine step_gr (wc := wc) rfl (.tmp 39) (.tmp 41) rfl (.slice A7 t c7) t (nats (l.take t)) (by rfl) (by first | exact HG7.out | exact HG7.out.alloc _ | exact HG7.out.still (Chg.refl [] _).drew | exact (HG7.out.alloc _).still (Chg.refl [] _).drew) (.slice (some ⟨wc.heap.size, 0, none⟩) 1 1) 1 [.int .i64 j] (by rfl) (src_one rfl (by first | exact Chg.refl [] _ | exact (Chg.refl [] _).drew | exact (Chg.refl [] _).alloc _ | exact ((Chg.refl [] _).alloc _).drew | exact (Chg.refl [] _).drew.alloc _) HK7.out (by first | rfl | simp) (by simp [Value.ownBlock])) (t + 1) ((nats (l.take t)) ++ [.int .i64 j]) rfl rfl CT1.out ?_; intro A8 c8 w8 g8 k8; have HG8 := Lib.hid g8; clear g8 k8)
              | (refine step_gr_old (wc := wc) rfl (.tmp 42) (.tmp 45) rfl (.slice A8 (t + 1) c8) (t + 1) ((nats (l.take t)) ++ [.int .i64 j]) (by rfl) (by first | exact HG8.out | exact HG8.out.still (Chg.refl [] _).drew) (.slice (if c0 = t then some ⟨g, 0, none⟩ else some ⟨g, t, none⟩) (j - t) (c0 - t)) (j - t) (nats (l.drop t)) (by rfl) S2.out (j + 1) ((nats (l.take t)) ++ [.int .i64 j] ++ (nats (l.drop t))) (by omega) rfl CJ.out ?_; intro A9 c9 w9 g9 k9; have HG9 := Lib.hid g9; clear g9 k9)
              | fail)
          all_goals
            go_wp2_with fail
            go_roundw
            case measure => simp [intOf]; omega
            case rel => exact ⟨j + 1, _, by go_num, by omega, by rw [← HFN.out]; exact HG9.out.own, HP'.out, HS'.out, HCR.out.trans (HCC.out.trans HG9.out.chg), fun k hk => by have := HG9.out.new k hk; have := HCR.out.size; have := HCC.out.size; omega⟩
    · have hjn : j = n := by omega
      subst hjn
      go_wp2_with fail
      go_ret
      exact ⟨_, _, l, rfl, by unfold NatsAt; rw [HLL.out]; exact HO.out, HP.out, HS.out, HCR.out, HV.out⟩
end Go.Proofs.Ytkdhhafoohnlnaa
