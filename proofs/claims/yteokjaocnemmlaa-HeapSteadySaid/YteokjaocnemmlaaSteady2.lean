/-
  The walk of HeapSteady.
-/
import Derived.Test.YteokjaocnemmlaaSteady3
import Derived.Laws.OwnMore
import Derived.Deep.CutBlock
namespace Go.Proofs.Yteokjaocnemmlaa
open Go.RowKit

theorem hins_st {w : World} {B pl left hb d b : Nat} {G : HG} {H : List PL} {v : Value} {ps : List (Nat × Nat)} (hS : HS w B pl left G H v ps) (hB : B ≤ w.heap.size) (hF : FI H left ps (fun _ => stT d)) (hlen : ps.length < 200) (hG : G.hb = hb) (hd : d ≤ 200) (hD : w.heap[b]? = some (ints .u8 5 200 (fun _ => 0))) :
    Calls Try.prog 24 #[.pointer (some ⟨hb, 0, none⟩), .agg #[.int .u64 1, .int .u64 1, .int .u64 0, .int .i64 (-1), .int .i64 (-1), .slice (some ⟨b, 0, none⟩) d 200]] w fun e w' =>
      ∃ (p s' left' : Nat) (G' : HG) (H' : List PL), e = .returned (.tuple #[.agg #[.int .i64 p, .int .i64 s'], .int .i64 0]) ∧ G'.hb = hb ∧ HS w' B pl left' G' H' v ps ∧ FI H' left' (ps ++ [(p, s')]) (fun _ => stT d) ∧ Chg (pl :: G.foot) w w' := by
  subst hG
  have h1 := hF.len
  have h2 := hF.sum
  have := hins_hs hS hB (by omega) h2 (stT d) (some ⟨b, 0, none⟩) d 200 (stT_len d) (stT_ok d hd) (by intro j hj; injection hj with hj; subst hj; exact (hS.off hD (by decide) (by decide) (by decide) (by decide) (by decide) (by decide)).1) (zeros_src hD hd 200)
  refine this.mono ?_
  rintro e w' ⟨p, s', left', G', H', he, hG', hS', hI, hC⟩
  exact ⟨p, s', left', G', H', he, hG', hS', hF.ins hI rfl, hC⟩

set_option maxRecDepth 100000 in
set_option maxHeartbeats 8000000 in
theorem hsteady_law (z mo : Nat) (A : Option Addr) (n cap : Nat) (s : Nat → Nat) (w : World) (hz : z ≤ 255) (hin : InB w A n s) :
    Calls Try.prog 10 #[.int .u8 z, .int .u8 mo, .slice A n cap] w fun e w' => e = .returned (.bool true) ∧ Below w.heap.size w w' := by
  have HIN := Lib.hid hin
  clear hin
  obtain ⟨d, hd⟩ : ∃ d, d = z % 201 := ⟨_, rfl⟩
  obtain ⟨m0, hm0⟩ : ∃ m0, m0 = mo % 30 := ⟨_, rfl⟩
  have hd200 : d ≤ 200 := by omega
  have hm30 : m0 < 30 := by omega
  have r1 : Int.tmod (z : Int) 201 = (d : Int) := by rw [hd]; rfl
  have r2 : Int.tmod (mo : Int) 30 = (m0 : Int) := by rw [hm0]; rfl
  have w1' : IntKind.i64.wrap (z : Int) = (z : Int) := IntWalk.i64_in _ (by omega)
  have w2' : IntKind.i64.wrap (d : Int) = (d : Int) := IntWalk.i64_in _ (by omega)
  have w3' : IntKind.i64.wrap (m0 : Int) = (m0 : Int) := IntWalk.i64_in _ (by omega)
  have hdi : (d : Int) ≤ 200 := by omega
  clear hd hm0
  go_enter Try.func10, Try.ntmps10
  go_wp2_with fail
  refine (awake7 _).mono ?_
  rintro e w1 ⟨rfl, hC1⟩
  have HC1 := Lib.hid hC1
  have hs1 := hC1.size
  clear hC1
  go_wp2_with fail
  refine (newPool_any 256 _ (by omega)).mono ?_
  rintro e w2 ⟨rfl, hp2, hC2, hs2⟩
  have HP2 := Lib.hid hp2
  have HC2 := Lib.hid (HC1.out.trans hC2)
  clear hp2 hC2
  unfold ptrV
  go_wp2_with fail
  refine (heapNew_any w1.heap.size w2).mono ?_
  rintro e w3 ⟨hb, rfl, ⟨rb, hh3, hb3, rb3⟩, hC3⟩
  have HS3 : Hid (HS w3 w.heap.size w1.heap.size 256 ⟨hb, rb, .slice none 0 0, []⟩ [] (.slice none 0 0) []) := Lib.hid (by
    refine ⟨hh3, HP2.out.chg hC3 (by simp), ⟨rfl, .inl ⟨rfl, rfl⟩⟩, hs1, ?_, by simp [Value.ownBlock]⟩
    intro x hx
    rcases mem_foot.1 hx with e | e | e | e
    · simp at e; omega
    · simp at e; omega
    · simp [Value.ownBlock] at e
    · simp at e)
  have HB3 : Hid (Below w.heap.size w w3) := Lib.hid ((HC2.out.trans hC3).below (Nat.le_refl _) (by simp))
  clear hh3 hC3 HP2 HC2 HC1
  unfold ptrV
  obtain ⟨pl, hpl⟩ : ∃ pl, pl = w1.heap.size := ⟨_, rfl⟩
  rw [← hpl] at HS3 ⊢
  clear hpl hs2 hb3 rb3
  go_wp2_with fail
  refine (wide_any _).mono ?_
  rintro e w4 ⟨b, rfl, hb4, hd4, hC4⟩
  have HS4 := Lib.hid (HS3.out.still hC4)
  have HB4 : Hid (Below w.heap.size w w4) := Lib.hid (HB3.out.trans (hC4.below HB3.out.size (by simp)))
  have HD4 := Lib.hid hd4
  clear hb4 hd4 hC4 HS3 HB3
  go_upto_block 0 with fail
  generalize hwa : w4.alloc _ = wa
  obtain ⟨T, hT⟩ : ∃ T, T = w4.heap.size := ⟨_, rfl⟩
  have hCa : Chg [] w4 wa := by rw [← hwa]; exact (Chg.refl _ _).alloc _
  have HTA : Hid (wa.heap[T]? = some (.cells #[.int .u64 1, .int .u64 1, .int .u64 0, .int .i64 (-1), .int .i64 (-1), .slice (some ⟨b, 0, none⟩) d 200] 59 (0, 0))) := Lib.hid (by rw [← hwa, hT]; exact heap_alloc_new w4 _)
  have HSA := Lib.hid (HS4.out.still hCa)
  have HBA : Hid (Below w.heap.size w wa) := Lib.hid (HB4.out.trans (hCa.below HB4.out.size (by simp)))
  have HDA := Lib.hid (hCa.heap HD4.out (by simp))
  rw [← hT]
  obtain ⟨N, hN⟩ : ∃ N, N = 1 + m0 := ⟨_, rfl⟩
  have hNi : (1 : Int) + (m0 : Int) = (N : Int) := by omega
  rw [hNi]
  have hN30 : N ≤ 30 := by omega
  have hN0 : 0 < N := by omega
  clear hwa hT hCa hN hNi HS4 HB4 HD4 r1 r2 w1' w2' w3'
  have HF0 := Lib.hid (FI.start (fun _ => stT d))
  go_cut [12] (fun s12 wx => ∃ (left : Nat) (G : HG) (H : List PL) (ps : List (Nat × Nat)), ps.length = N ∧ G.hb = hb ∧ HS wx w.heap.size pl left G H s12 ps ∧ FI H left ps (fun _ => stT d) ∧ Below w.heap.size w wx ∧ wx.heap[T]? = some (.cells #[.int .u64 1, .int .u64 1, .int .u64 0, .int .i64 (-1), .int .i64 (-1), .slice (some ⟨b, 0, none⟩) d 200] 59 (0, 0)) ∧ wx.heap[b]? = some (ints .u8 5 200 (fun _ => 0)))
  case first =>
    go_wp2_with fail
    go_loopw [12, 42] (fun v i wr => ∃ (k left : Nat) (G : HG) (H : List PL) (ps : List (Nat × Nat)), i = .int .i64 k ∧ k ≤ N ∧ ps.length = k ∧ G.hb = hb ∧ HS wr w.heap.size pl left G H v ps ∧ FI H left ps (fun _ => stT d) ∧ Below w.heap.size w wr ∧ wr.heap[T]? = some (.cells #[.int .u64 1, .int .u64 1, .int .u64 0, .int .i64 (-1), .int .i64 (-1), .slice (some ⟨b, 0, none⟩) d 200] 59 (0, 0)) ∧ wr.heap[b]? = some (ints .u8 5 200 (fun _ => 0))) (fun _ i _ => N - (intOf i).toNat)
    case atStart => exact ⟨0, 256, _, [], [], rfl, by omega, rfl, rfl, HSA.out, HF0.out, HBA.out, HTA.out, HDA.out⟩
    case round =>
      obtain ⟨k, left, G, H, ps, rfl, hk, hps, hG, hS, hF, hBr, hTr, hDr⟩ := hrel
      have HSR := Lib.hid hS
      have HFR := Lib.hid hF
      have HBR := Lib.hid hBr
      have HPS := Lib.hid hps
      have HGB := Lib.hid hG
      have HTR := Lib.hid hTr
      have HDR := Lib.hid hDr
      obtain ⟨A0, cp0, hv0⟩ := hS.row.form'
      rw [hps] at hv0
      subst hv0
      clear hS hF hBr hps hG hTr hDr HSA HF0 HBA HTA HDA
      by_cases hlt : k < N
      · have hwr := HBR.out.size
        have I := Lib.hid (hins_st HSR.out hwr HFR.out (by rw [HPS.out]; omega) HGB.out hd200 HDR.out)
        go_wp2_with (first | (refine wpList_load_row rfl 59 (.tmp 10) rfl T rfl 59 #[.int .u64 1, .int .u64 1, .int .u64 0, .int .i64 (-1), .int .i64 (-1), .slice (some ⟨b, 0, none⟩) d 200] (0, 0) _ HTR.out Try.underlying59 rfl (size59 _ _ _ _ _ _) ?_))
        refine I.out.mono ?_
        rintro e w5 ⟨p, s', left', G', H', rfl, hG', hS5, hF5, hC5⟩
        have HS5 := Lib.hid hS5
        have HF5 := Lib.hid hF5
        have HG5 := Lib.hid hG'
        have HB5 : Hid (Below w.heap.size w w5) := Lib.hid (HBR.out.trans (hC5.below hwr HSR.out.below))
        have HT5 := Lib.hid (hC5.heap HTR.out (HSR.out.off HTR.out (by decide) (by decide) (by decide) (by decide) (by decide) (by decide)).1)
        have HD5 := Lib.hid (hC5.heap HDR.out (HSR.out.off HDR.out (by decide) (by decide) (by decide) (by decide) (by decide) (by decide)).1)
        clear hG' hS5 hF5 hC5 I
        have hS5a : HS (w5.alloc (.cells #[.int .i64 p, .int .i64 s'] 53)) w.heap.size pl left' G' H' (.slice A0 k cp0) ps := HS5.out.still ((Chg.refl [] w5).alloc _)
        have hown := hS5a.row
        rw [HPS.out] at hown
        have hsrc2 := Src1.two (w := w5.alloc (.cells #[.int .i64 p, .int .i64 s'] 53)) (e := 53) (u := .int .i64 p) (v := .int .i64 s') rfl rfl
        rw [show (w5.alloc (.cells #[.int .i64 p, .int .i64 s'] 53)).heap.size = w5.heap.size + 1 by simp] at hsrc2
        have HOWN := Lib.hid (Own.alloc hown (.cells #[.int .i64 p, .int .i64 s'] 53))
        have HSRC2 := Lib.hid hsrc2
        have HS5A := Lib.hid hS5a
        have hNk : k < 30 := by omega
        clear hS5a hown hsrc2
        go_wp2_with (at_builtin; refine wpList_app rfl (.tmp 52) (.tmp 54) 51 rfl 53 2 16 El51 (.slice A0 k cp0) k (tids ps) rfl HOWN.out (.slice (some ⟨w5.heap.size + 1, 0, none⟩) 1 1) 1 [.int .i64 p, .int .i64 s'] rfl HSRC2.out (k + 1) (tids ps ++ [.int .i64 p, .int .i64 s']) rfl rfl (by unfold maxLen; omega) (by omega) ?_; intro A6 c6 w6 a6; have HA6 := Lib.hid a6; clear a6)
        go_roundw
        case measure => simp [intOf]; omega
        case rel =>
          have a6 := HA6.out
          have hB5 := HB5.out.size
          have hC6 : Chg (Value.slice A0 k cp0).ownBlock.toList w5 w6 := (((Chg.refl _ w5).alloc _).alloc _).trans a6.chg
          refine ⟨k + 1, left', G', H', ps ++ [(p, s')], by go_num, by omega, by simp [HPS.out], HG5.out, HS5A.out.app' HPS.out (by simp; omega) a6, HF5.out, ?_, ?_, ?_⟩
          · refine HB5.out.trans (hC6.below hB5 ?_)
            intro y hy
            rw [Option.mem_toList] at hy
            exact HS5.out.ger y hy
          · refine hC6.heap HT5.out ?_
            rw [Option.mem_toList]
            exact (HS5.out.off HT5.out (by decide) (by decide) (by decide) (by decide) (by decide) (by decide)).2
          · refine hC6.heap HD5.out ?_
            rw [Option.mem_toList]
            exact (HS5.out.off HD5.out (by decide) (by decide) (by decide) (by decide) (by decide) (by decide)).2
      · have hke : k = N := by omega
        have HKE := Lib.hid hke
        clear hke
        go_wp2_with fail
        go_meet
        exact ⟨left, G, H, ps, by rw [HPS.out, HKE.out], HGB.out, HSR.out, HFR.out, HBR.out, HTR.out, HDR.out⟩
  case rest =>
    obtain ⟨left, G, H, ps, hps, hG, hS, hF, hB, hTx, hDx⟩ := hcut
    obtain ⟨q0, hq0⟩ : ∃ q, ps[0]? = some q := ⟨_, List.getElem?_eq_getElem (by omega)⟩
    obtain ⟨g, cp, hv, _⟩ := hS.place hq0
    rw [hps] at hv
    subst hv
    obtain ⟨P, hP⟩ : ∃ P, P = H.length := ⟨_, rfl⟩
    have hpg := pages_heap hS.heap
    rw [hG, ← hP] at hpg
    have HPG := Lib.hid hpg
    have hP256 : P ≤ 256 := by have := hS.heap.h256; omega
    have HSUM : Hid (P + left = 256) := Lib.hid (by rw [hP]; exact hF.sum)
    have HREL : Hid (∃ (G : HG) (H : List PL) (ps : List (Nat × Nat)), ps.length = N ∧ H.length = P ∧ G.hb = hb ∧ HS wc w.heap.size pl left G H (.slice (some ⟨g, 0, none⟩) N cp) ps ∧ FI H left ps (fun _ => stT d) ∧ Below w.heap.size w wc ∧ wc.heap[T]? = some (.cells #[.int .u64 1, .int .u64 1, .int .u64 0, .int .i64 (-1), .int .i64 (-1), .slice (some ⟨b, 0, none⟩) d 200] 59 (0, 0)) ∧ wc.heap[b]? = some (ints .u8 5 200 (fun _ => 0))) := Lib.hid ⟨G, H, ps, hps, hP.symm, hG, hS, hF, hB, hTx, hDx⟩
    clear hpg hP hq0 hps hG hS hF hB hTx hDx HSA HF0 HBA HTA HDA
    unfold ptrV at HPG
    go_upto_block 2 with (first | (go_at_call 39; refine HPG.out.mono ?_; rintro e w4 ⟨rfl, rfl⟩))
    go_cut [] (fun wx => ∃ (G : HG) (H : List PL) (ps : List (Nat × Nat)), ps.length = N ∧ H.length = P ∧ G.hb = hb ∧ HS wx w.heap.size pl left G H (.slice (some ⟨g, 0, none⟩) N cp) ps ∧ FI H left ps (fun _ => stT d) ∧ Below w.heap.size w wx ∧ wx.heap[T]? = some (.cells #[.int .u64 1, .int .u64 1, .int .u64 0, .int .i64 (-1), .int .i64 (-1), .slice (some ⟨b, 0, none⟩) d 200] 59 (0, 0)) ∧ wx.heap[b]? = some (ints .u8 5 200 (fun _ => 0)))
    case first =>
      go_wp2_with fail
      go_loopw [61] (fun i wr => ∃ k : Nat, i = .int .i64 k ∧ k ≤ n ∧ (∃ (G : HG) (H : List PL) (ps : List (Nat × Nat)), ps.length = N ∧ H.length = P ∧ G.hb = hb ∧ HS wr w.heap.size pl left G H (.slice (some ⟨g, 0, none⟩) N cp) ps ∧ FI H left ps (fun _ => stT d) ∧ Below w.heap.size w wr ∧ wr.heap[T]? = some (.cells #[.int .u64 1, .int .u64 1, .int .u64 0, .int .i64 (-1), .int .i64 (-1), .slice (some ⟨b, 0, none⟩) d 200] 59 (0, 0)) ∧ wr.heap[b]? = some (ints .u8 5 200 (fun _ => 0)))) (fun i _ => n - (intOf i).toNat)
      case atStart => exact ⟨0, rfl, by omega, HREL.out⟩
      case round =>
        obtain ⟨k, rfl, hk, hrel⟩ := hrel
        have HR := Lib.hid hrel
        clear hrel HREL
        by_cases hlt : k < n
        · obtain ⟨gi, off, rfl, hcz⟩ := HIN.out (by omega)
          obtain ⟨c1, hs255⟩ := hcz k (by omega)
          obtain ⟨G, H, ps, hps, hP, hG, hS, hF, hB, hTr, hDr⟩ := HR.out
          have g1 := (hB.cell (World.block_lt_of_cell? _ _ c1)).trans c1
          by_cases h40 : k < 40
          · obtain ⟨x, hx⟩ : ∃ x, x = s k := ⟨_, rfl⟩
            obtain ⟨gd, hgd⟩ : ∃ gd, gd = x % N := ⟨_, rfl⟩
            rw [← hx] at g1 hs255
            have hgdk : gd < N := by rw [hgd]; exact Nat.mod_lt _ hN0
            have d3 : decide ((40 : Int) ≤ k) = false := by simp; omega
            have d4 : decide (40 ≤ k) = false := by simp; omega
            have q1 : Int.tmod (x : Int) (N : Int) = (gd : Int) := by rw [hgd]; rfl
            have w1' : IntKind.i64.wrap (gd : Int) = (gd : Int) := IntWalk.i64_in _ (by omega)
            have w2' : IntKind.i64.wrap (x : Int) = (x : Int) := IntWalk.i64_in _ (by omega)
            have k0 : ((N : Int) == 0) = false := by simp; omega
            have k1 : (N == 0) = false := by simp; omega
            have hgdi : (gd : Int) < (N : Int) := by omega
            obtain ⟨q, hq⟩ : ∃ q, ps[gd]? = some q := ⟨_, List.getElem?_eq_getElem (by rw [hps]; exact hgdk)⟩
            obtain ⟨e1, e2⟩ := hS.place' (A := none) rfl hq
            have hbw := hB.size
            have IF := Lib.hid (hfree_hs2 hS hbw hG (hF.at_ gd q hq))
            have HSR := Lib.hid hS
            have HFR := Lib.hid hF
            have HBR := Lib.hid hB
            have HTR := Lib.hid hTr
            have HDR := Lib.hid hDr
            have HPS := Lib.hid hps
            have HPP := Lib.hid hP
            have HGB := Lib.hid hG
            have HQ := Lib.hid hq
            clear hcz c1 hx hgd hps hP hG hS hF hB hTr hDr hq HR
            go_wp2_with fail
            refine IF.out.mono ?_
            rintro e w5 ⟨rfl, ⟨H1, L1, hS5, hget, hused, hlen, hL1, hroom⟩, hC5⟩
            have hB5 : Below w.heap.size w w5 := HBR.out.trans (hC5.below hbw HSR.out.gef)
            have hT5 := hC5.heap HTR.out (fun e => (HSR.out.off HTR.out (by decide) (by decide) (by decide) (by decide) (by decide) (by decide)).1 (List.mem_cons_of_mem _ e))
            have hD5 := hC5.heap HDR.out (fun e => (HSR.out.off HDR.out (by decide) (by decide) (by decide) (by decide) (by decide) (by decide)).1 (List.mem_cons_of_mem _ e))
            have h256 : H1.length + left = 256 := by rw [hlen]; exact HFR.out.sum
            have IN := Lib.hid (hins_round hS5 hB5.size h256 HGB.out hd200 hD5 hL1 hroom)
            have HS5 := Lib.hid hS5
            have HB5 := Lib.hid hB5
            have HT5 := Lib.hid hT5
            have HD5 := Lib.hid hD5
            have HGET := Lib.hid hget
            have HUSED := Lib.hid hused
            have HLEN := Lib.hid hlen
            clear hS5 hB5 hT5 hD5 hget hused hlen hL1 hroom hC5 IF e1 e2 h256
            go_wp2_with (first | (refine wpList_load_row rfl 59 (.tmp 10) rfl T rfl 59 #[.int .u64 1, .int .u64 1, .int .u64 0, .int .i64 (-1), .int .i64 (-1), .slice (some ⟨b, 0, none⟩) d 200] (0, 0) _ HT5.out Try.underlying59 rfl (size59 _ _ _ _ _ _) ?_))
            refine IN.out.mono ?_
            rintro e w6 ⟨p, s', G', H2, rfl, hG', hS6, hI, hlen2, hC6⟩
            have hF6 := HFR.out.swap HQ.out HGET.out HUSED.out HLEN.out hI hlen2
            have hC7 := (Chg.refl [] w6).alloc (.cells #[.int .i64 p, .int .i64 s'] 53)
            have hS7 := hS6.still hC7
            have hB6 : Below w.heap.size w w6 := HB5.out.trans (hC6.below HB5.out.size HS5.out.below)
            have hT6 := hC6.heap HT5.out (HS5.out.off HT5.out (by decide) (by decide) (by decide) (by decide) (by decide) (by decide)).1
            have hD6 := hC6.heap HD5.out (HS5.out.off HD5.out (by decide) (by decide) (by decide) (by decide) (by decide) (by decide)).1
            have hP2 : H2.length = P := by rw [hlen2, HLEN.out, HPP.out]
            have hpg := fun (m : Nat) => pages_heap (hS7.heap.drewN m)
            have hpg0 := pages_heap hS7.heap
            have husd := fun (m : Nat) => used_heap (hS7.heap.drewN m)
            have husd0 := used_heap hS7.heap
            have hu : usedH H2 = N := by rw [hF6.used, List.length_set, HPS.out]
            rw [hG', hP2] at hpg0
            rw [hG', hu] at husd0
            unfold ptrV at hpg0 husd0
            have HPG0 := Lib.hid hpg0
            have HUS0 := Lib.hid husd0
            obtain ⟨y1, y2⟩ := hS7.place' (A := none) rfl HQ.out
            obtain ⟨cs, hrow⟩ := hS7.row_block (g := g) rfl
            have z1 := frozen_of_row _ g (gd * 2) _ _ hrow
            have z2 := frozen_of_row _ g (gd * 2 + 1) _ _ hrow
            have HS7 := Lib.hid hS7
            have HB6 := Lib.hid hB6
            have HT7 := Lib.hid (hC7.heap hT6 (by simp))
            have HD7 := Lib.hid (hC7.heap hD6 (by simp))
            have HF6 := Lib.hid hF6
            have HG6 := Lib.hid hG'
            have HP2 := Lib.hid hP2
            have hgl := lt_of_heap hrow
            simp at hgl
            clear hC7 hS7 hS6 hB6 hT6 hD6 hP2 hpg hpg0 husd husd0 hu hF6 hG' hI hlen2 hC6 IN hrow
            go_wp2_with (first | (go_at_call 39; refine HPG0.out.mono ?_; rintro e w8 ⟨rfl, rfl⟩) | (go_at_call 41; refine HUS0.out.mono ?_; rintro e w8 ⟨rfl, n8, rfl⟩))
            go_roundw
            case measure => simp [intOf]; omega
            case rel =>
              have hS8 := HS7.out.still ((Chg.refl [] _).drewN n8)
              have hoff := hS8.row_off (g := g) rfl
              have hTT := HS7.out.off HT7.out (by decide) (by decide) (by decide) (by decide) (by decide) (by decide)
              have hDD := HS7.out.off HD7.out (by decide) (by decide) (by decide) (by decide) (by decide) (by decide)
              have hgT : T ≠ g := fun e => hTT.2 (by rw [e]; rfl)
              have hgb : b ≠ g := fun e => hDD.2 (by rw [e]; rfl)
              have hgB : w.heap.size ≤ g := hS8.ger g rfl
              refine ⟨k + 1, by go_num, by omega, G', H2, ps.set gd (p, s'), by rw [List.length_set, HPS.out], HP2.out, HG6.out, hS8.setPlace HPS.out hgdk p s', HF6.out, ?_, ?_, ?_⟩
              · have h1 : Below w.heap.size w ((w6.alloc (.cells #[.int .i64 p, .int .i64 s'] 53)).drewN n8) := HB6.out.trans (((Chg.refl [] w6).alloc _ |>.drewN n8).below HB6.out.size (by simp))
                exact h1.trans ((((Chg.refl [g] _).setCell (p := ⟨g, gd * 2, none⟩) (.inl (by simp)) (.int .i64 p)).setCell (p := ⟨g, gd * 2 + 1, none⟩) (.inl (by simp)) (.int .i64 s')).below h1.size (by simpa using hgB))
              · exact heap_setCell_ne (heap_setCell_ne (p := ⟨g, gd * 2, none⟩) HT7.out hgT) hgT
              · exact heap_setCell_ne (heap_setCell_ne (p := ⟨g, gd * 2, none⟩) HD7.out hgb) hgb
          · have d3 : decide ((40 : Int) ≤ k) = true := by simp; omega
            have d4 : decide (40 ≤ k) = true := by simp; omega
            clear hcz c1 hps hP hG hS hF hB hTr hDr
            go_wp2_with fail
            go_meet
            exact HR.out
        · go_wp2_with fail
          go_meet
          exact HR.out
    case rest =>
      obtain ⟨G, H, ps, hps, hP, hG, hS, hF, hB, hTx, hDx⟩ := hcut
      have hdr := hdrop hS.heap hS.pool (by rw [hP]; have := HSUM.out; omega)
      rw [hG, hP] at hdr
      have HDRP := Lib.hid hdr
      have HBB := Lib.hid hB
      have hge : w.heap.size ≤ pl ∧ w.heap.size ≤ hb := ⟨hS.gep, by rw [← hG]; exact hS.gef _ (mem_foot.2 (.inl rfl))⟩
      clear hps hP hG hS hF hB hTx hDx hdr HREL
      go_wp2_with fail
      refine HDRP.out.mono ?_
      rintro e w4 ⟨rfl, ⟨rb, hrb, hh⟩, hp, hC⟩
      have hB4 : Below w.heap.size w w4 := HBB.out.trans (hC.below HBB.out.size (by simp; omega))
      have e256 : left + P = 256 := by have := HSUM.out; omega
      rw [e256] at hp
      have hl := left_any pl 256 w4 hp
      have hu := used_heap hh
      have HL : Hid (Calls Try.prog 28 #[.pointer (some ⟨pl, 0, none⟩)] w4 fun e w' => e = .returned (.int .i64 256) ∧ w4 = w') := Lib.hid hl
      have HU : Hid (Calls Try.prog 41 #[.pointer (some ⟨hb, 0, none⟩)] w4 fun e w' => e = .returned (.int .i64 0) ∧ ∃ n, w' = w4.drewN n) := Lib.hid hu
      have HB4 := Lib.hid hB4
      clear hB4 e256 hl hu hp hh hC
      go_wp2_with (first | (go_at_call 28; refine HL.out.mono ?_; rintro e w5 ⟨rfl, rfl⟩) | (go_at_call 41; refine HU.out.mono ?_; rintro e w5 ⟨rfl, n5, rfl⟩))
      go_ret
      refine ⟨rfl, ⟨HB4.out.os, HB4.out.tape, HB4.out.output, HB4.out.size, HB4.out.block⟩⟩
end Go.Proofs.Yteokjaocnemmlaa
