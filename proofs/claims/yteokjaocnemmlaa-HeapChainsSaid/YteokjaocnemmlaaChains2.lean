/-
  The walk of HeapChains.
-/
import Derived.Test.YteokjaocnemmlaaChains1
import Derived.Test.YteokjaocnemmlaaSame26
import Derived.Test.YteokjaocnemmlaaSteady3
namespace Go.Proofs.Yteokjaocnemmlaa
open Go.RowKit

theorem InsP.shift {H H' : List PL} {t : Tup} {left left' p s : Nat} (h : InsP H t left p s H' left') (c : Nat) : InsP H t (left + c) p s H' (left' + c) :=
  ⟨h.was, h.get, h.used, h.len, h.le, by have := h.sum; omega⟩

/-- Insert into a pool of twenty pages. -/
theorem hins_ch {w : World} {B pl left hb b : Nat} {G : HG} {H : List PL} {v : Value} {ps : List (Nat × Nat)} (hS : HS w B pl left G H v ps) (hB : B ≤ w.heap.size) (hF : FI H (left + 236) ps (lkT ps 0)) (hlen : ps.length < 20) (hG : G.hb = hb)
    (hsd : b ∉ pl :: G.foot) (hsrc : Src1 w 1 (.slice (some ⟨b, 0, none⟩) 50 50) 50 (bvals (List.replicate 50 0))) :
    Calls Try.prog 24 #[.pointer (some ⟨hb, 0, none⟩), .agg #[.int .u64 1, .int .u64 1, .int .u64 0, .int .i64 (-1), .int .i64 (-1), .slice (some ⟨b, 0, none⟩) 50 50]] w fun e w' =>
      ∃ (p s' left' : Nat) (G' : HG) (H' : List PL), e = .returned (.tuple #[.agg #[.int .i64 p, .int .i64 s'], .int .i64 0]) ∧ G'.hb = hb ∧ HS w' B pl left' G' H' v ps ∧ FI H' (left' + 236) (ps ++ [(p, s')]) (lkT (ps ++ [(p, s')]) 0) ∧ Chg (pl :: G.foot) w w' := by
  subst hG
  have h1 := hF.len
  have h2 := hF.sum
  refine (hinsert_any hS.heap hS.pool (by omega) (stT 50) (some ⟨b, 0, none⟩) 50 50 (stT_len 50) (stT_ok 50 (by omega)) (by intro j hj; injection hj with hj; subst hj; exact hsd) hsrc).mono ?_
  rintro e w' ⟨code, p, s, H', left', G', rfl, hR, hG, hh, hp, hf, hC⟩
  rcases hR.cases with ⟨rfl, a, c, rfl, rfl, hI⟩ | ⟨_, _, h0, _⟩
  · exact ⟨a, c, left', G', H', rfl, hG, hS.turn hC hB hh hp hf, (hF.ins (hI.shift 236) (by rw [lkT_zero])).congr (fun j _ => by rw [lkT_zero, lkT_zero]), hC⟩
  · omega

theorem nget_small {w : World} {pl : Nat} {G : HG} {H : List PL} (h : HeapAt w pl G H) {p s : Nat} {t : Tup} (hn : nget H p s = some t) : p < 256 ∧ s < 128 := by
  unfold nget at hn
  have h1 := h.h256
  cases hL : H[p]? with
  | none => rw [hL] at hn; cases hn
  | some L =>
    rw [hL] at hn
    have hs := sget_some.1 hn
    obtain ⟨b, _, hp⟩ := h.ptr_of hL
    have h2 := hp.fits
    have h3 := getElem?_lt hs
    have h4 := getElem?_lt hL
    omega
theorem far_nat {p s : Nat} (hp : p < 256) (hs : s < 128) : farB p s = false := by
  unfold farB
  rw [if_neg (by omega)]
  simp
  omega
/-- Stamp of one of the list. -/
theorem hstamp_hs {w : World} {B pl left hb k : Nat} {G : HG} {H : List PL} {v : Value} {ps : List (Nat × Nat)} {q q' : Nat × Nat} (hS : HS w B pl left G H v ps) (hB : B ≤ w.heap.size) (hG : G.hb = hb) (hF : FI H (left + 236) ps (lkT ps k)) (hq : ps[k]? = some q) (hq' : nx ps k = q') :
    Calls Try.prog 25 #[.pointer (some ⟨hb, 0, none⟩), .agg #[.int .i64 q.1, .int .i64 q.2], .int .u64 1, .agg #[.int .i64 q'.1, .int .i64 q'.2]] w fun e w' =>
      e = .returned (.int .i64 0) ∧ (∃ H', HS w' B pl left G H' v ps ∧ FI H' (left + 236) ps (lkT ps (k + 1))) ∧ Chg G.foot w w' := by
  subst hG
  have h0 := hF.at_ k q hq
  have hm : q' ∈ ps := by rw [← hq']; exact nx_mem k (by have := getElem?_lt hq; omega)
  obtain ⟨j, hj⟩ := List.getElem?_of_mem hm
  obtain ⟨s1, s2⟩ := nget_small hS.heap (hF.at_ j q' hj)
  unfold nget at h0
  cases hL : H[q.1]? with
  | none => rw [hL] at h0; cases h0
  | some L =>
    rw [hL] at h0
    have hs := sget_some.1 h0
    refine (hstamp_ok hS.heap hL hs (xmax := 1) (np := q'.1) (ns := q'.2) (by omega) (by omega) (far_nat s1 s2)).mono ?_
    rintro e w' ⟨rfl, hh, hC⟩
    obtain ⟨g1, g2⟩ := stamp_get hL hs ((lkT ps k k).stamp 1 q'.1 q'.2)
    refine ⟨rfl, ⟨_, hS.turn (hC.mono (fun x hx => List.mem_cons_of_mem _ hx)) hB hh (hS.pool.chg hC (hS.heap.pl_ne hS.pool)) (fun x hx => .inl hx), hF.link hq hq' ?_ g2 (by simp)⟩, hC⟩
    intro a b
    have e : (lkT ps k k).stamp 1 q'.1 q'.2 = (stT 50).stamp 1 q'.1 q'.2 := by unfold lkT; rw [if_neg (by omega)]
    rw [← e]
    exact g1 a b

/-- What the law knows behind its two loops. -/
def ChI (w : World) (pl hb n k : Nat) (v : Value) (wx : World) : Prop :=
  ∃ (left : Nat) (G : HG) (H : List PL) (ps : List (Nat × Nat)), ps.length = n ∧ G.hb = hb ∧ HS wx w.heap.size pl left G H v ps ∧ FI H (left + 236) ps (lkT ps k) ∧ Below w.heap.size w wx

/-- .. behind the list that is wanted. -/
def ChT (w : World) (pl hb g n cp f : Nat) (v : Value) (wx : World) : Prop :=
  ∃ (left : Nat) (G : HG) (H : List PL) (ps : List (Nat × Nat)) (q : Nat × Nat) (r : List (Nat × Nat)), ps.length = n ∧ G.hb = hb ∧ HS wx w.heap.size pl left G H (.slice (some ⟨g, 0, none⟩) n cp) ps ∧ ps[f]? = some q ∧ r.length ≤ 1000 ∧ H.length ≤ 20 ∧ (q.1 < 256 ∧ q.2 < 128) ∧ Own wx 53 2 v r.length (tids r) ∧ Chn H [] q.1 q.2 r ∧ Below w.heap.size w wx
theorem HeapAt.off {w : World} {pl T u : Nat} {G : HG} {H : List PL} {cs : Array Value} (h : HeapAt w pl G H) (hT : w.heap[T]? = some (.cells cs u (0, 0))) (h2 : u ≠ 102) (h3 : u ≠ 97) (h4 : u ≠ 104) (h5 : u ≠ 134) : T ∉ G.foot := by
  intro hm
  rcases mem_foot.1 hm with e | e | e | e
  · exact ne_of_type hT h.head h2 e
  · obtain ⟨f, hf, _⟩ := h.rooms
    exact ne_of_type hT hf h3 e
  · obtain ⟨cs2, hc2⟩ := h.row_block e
    exact ne_of_type hT hc2 h4 rfl
  · obtain ⟨L, hL⟩ := h.pageOf e
    obtain ⟨cs2, hc2⟩ := hL.block
    exact ne_of_type hT hc2 h5 rfl
theorem Own.block {w : World} {e size n k : Nat} {v : Value} {xs : List Value} (h : Own w e size v n xs) (hk : v.ownBlock = some k) : ∃ cs, w.heap[k]? = some (.cells cs e (0, 0)) := by
  rcases h.2 with ⟨he, _⟩ | ⟨g', cap, cur, he, _, hh, _⟩
  · rw [he] at hk; cases hk
  · rw [he] at hk
    injection hk with hk
    subst hk
    exact ⟨_, hh⟩
theorem HeapAt.offRow {w : World} {pl n : Nat} {G : HG} {H : List PL} {v : Value} {xs : List Value} (h : HeapAt w pl G H) (hO : Own w 53 2 v n xs) : ∀ k, v.ownBlock = some k → k ∉ G.foot := by
  intro k hk
  obtain ⟨cs, hc⟩ := hO.block hk
  exact h.off hc (by decide) (by decide) (by decide) (by decide)
/-- What turns other blocks leaves it. -/
theorem HS.aside {w w' : World} {B pl left : Nat} {G : HG} {H : List PL} {v : Value} {ps : List (Nat × Nat)} {S : List Nat} (h : HS w B pl left G H v ps) (hC : Chg S w w') (h1 : ∀ x, x ∈ pl :: G.foot → x ∉ S) (h2 : ∀ k, v.ownBlock = some k → k ∉ S) : HS w' B pl left G H v ps :=
  ⟨h.heap.chg hC (fun x hx => h1 x (List.mem_cons_of_mem _ hx)), h.pool.chg hC (h1 pl (by simp)), h.row.chg hC h2, h.gep, h.gef, h.ger⟩
theorem hget_big {H : List PL} {p s : Nat} (h : H.length ≤ p) : hget H p s = none := by
  rw [hget_nat]
  unfold nget
  rw [List.getElem?_eq_none h]
  rfl
theorem chain_is {w : World} {B pl left hb : Nat} {G : HG} {H : List PL} {v : Value} {ps : List (Nat × Nat)} {p s : Nat} {r : List (Nat × Nat)} (hS : HS w B pl left G H v ps) (hG : G.hb = hb) (hp : p < 256) (hs : s < 128) (hR : Chn H [] p s r) :
    Calls Try.prog 27 #[.pointer (some ⟨hb, 0, none⟩), .agg #[.int .i64 p, .int .i64 s]] w fun e w' => ∃ A c, e = .returned (.slice A r.length c) ∧ Own w' 53 2 (.slice A r.length c) r.length (tids r) ∧ Chg [] w w' := by
  subst hG
  refine (chain_any hS.heap p s (wf_i64 (by omega) (by omega)) (wf_i64 (by omega) (by omega))).mono ?_
  rintro e w' ⟨v, r', rfl, hO, hR', hC, _⟩
  have := hR.eq hR'
  subst this
  obtain ⟨A, c, rfl⟩ := hO.form'
  exact ⟨A, c, rfl, hO, hC⟩

set_option maxRecDepth 100000 in
set_option maxHeartbeats 8000000 in
theorem hchains_law (z fr : Nat) (circ : Bool) (w : World) (hfr : fr ≤ 255) :
    Calls Try.prog 6 #[.int .u8 z, .int .u8 fr, .bool circ] w fun e w' => e = .returned (.bool true) ∧ Below w.heap.size w w' := by
  obtain ⟨m0, hm0⟩ : ∃ m0, m0 = z % 20 := ⟨_, rfl⟩
  obtain ⟨N, hN⟩ : ∃ N, N = 1 + m0 := ⟨_, rfl⟩
  obtain ⟨f0, hf0⟩ : ∃ f0, f0 = fr % N := ⟨_, rfl⟩
  have hm20 : m0 < 20 := by omega
  have hN20 : N ≤ 20 := by omega
  have hN0 : 0 < N := by omega
  have hf0N : f0 < N := by rw [hf0]; exact Nat.mod_lt _ hN0
  have r1 : Int.tmod (z : Int) 20 = (m0 : Int) := by rw [hm0]; rfl
  have r2 : Int.tmod (fr : Int) (N : Int) = (f0 : Int) := by rw [hf0]; rfl
  have w1' : IntKind.i64.wrap (m0 : Int) = (m0 : Int) := IntWalk.i64_in _ (by omega)
  have w2' : IntKind.i64.wrap (fr : Int) = (fr : Int) := IntWalk.i64_in _ (by omega)
  have w3' : IntKind.i64.wrap (f0 : Int) = (f0 : Int) := IntWalk.i64_in _ (by omega)
  have hNi : (1 : Int) + (m0 : Int) = (N : Int) := by omega
  have R1 := Lib.hid r1
  have R2 := Lib.hid r2
  have HNI := Lib.hid hNi
  clear hm0 hN hf0 r1 r2 hNi
  go_enter Try.func6, Try.ntmps6
  go_wp2_with fail
  refine (awake7 _).mono ?_
  rintro e w1 ⟨rfl, hC1⟩
  have HC1 := Lib.hid hC1
  have hs1 := hC1.size
  clear hC1
  go_wp2_with fail
  refine (newPool_any 20 _ (by omega)).mono ?_
  rintro e w2 ⟨rfl, hp2, hC2, hs2⟩
  have HP2 := Lib.hid hp2
  have HC2 := Lib.hid (HC1.out.trans hC2)
  clear hp2 hC2
  unfold ptrV
  go_wp2_with fail
  refine (heapNew_any w1.heap.size w2).mono ?_
  rintro e w3 ⟨hb, rfl, ⟨rb, hh3, hb3, rb3⟩, hC3⟩
  have HS3 : Hid (HS w3 w.heap.size w1.heap.size 20 ⟨hb, rb, .slice none 0 0, []⟩ [] (.slice none 0 0) []) := Lib.hid (by
    refine ⟨hh3, HP2.out.chg hC3 (by simp), ⟨rfl, .inl ⟨rfl, rfl⟩⟩, hs1, ?_, by simp [Value.ownBlock]⟩
    intro x hx
    rcases mem_foot.1 hx with e | e | e | e
    · simp at e; omega
    · simp at e; omega
    · simp [Value.ownBlock] at e
    · simp at e)
  have HB3 : Hid (Below w.heap.size w w3) := Lib.hid ((HC2.out.trans hC3).below (Nat.le_refl _) (by simp))
  clear hh3 hC3 HP2 HC2 HC1
  unfold ptrV
  obtain ⟨pl, hpl⟩ : ∃ pl, pl = w1.heap.size := ⟨_, rfl⟩
  rw [← hpl] at HS3 ⊢
  clear hpl hs2 hb3 rb3
  have r1 := R1.out
  have hF0 : FI [] (20 + 236) [] (lkT [] 0) := (FI.start (lkT [] 0))
  have HF0 := Lib.hid hF0
  clear hF0
  go_upto_block 0 with fail
  rw [HNI.out]
  clear r1
  go_cut [11] (fun s11 wx => ChI w pl hb N 0 s11 wx)
  case first =>
    go_wp2_with fail
    go_loopw [11, 30] (fun v i wr => ∃ k : Nat, i = .int .i64 k ∧ k ≤ N ∧ ChI w pl hb k 0 v wr) (fun _ i _ => N - (intOf i).toNat)
    case atStart => exact ⟨0, rfl, by omega, 20, _, [], [], rfl, rfl, HS3.out, HF0.out, HB3.out⟩
    case round =>
      obtain ⟨k, rfl, hk, left, G, H, ps, hps, hG, hS, hF, hBr⟩ := hrel
      have HSR := Lib.hid hS
      have HFR := Lib.hid hF
      have HBR := Lib.hid hBr
      have HPS := Lib.hid hps
      have HGB := Lib.hid hG
      obtain ⟨A0, cp0, hv0⟩ := hS.row.form'
      rw [hps] at hv0
      subst hv0
      clear hS hF hBr hps hG HS3 HF0 HB3
      by_cases hlt : k < N
      · go_wp2_with (first | (refine wpList_mkb rfl _ _ rfl 50 rfl rfl (by omega) ?_; intro w4 hsrc hC4 hs4; have HSRC := Lib.hid hsrc; have HC4 := Lib.hid hC4; clear hsrc hC4))
        have hs4' := HC4.out.size
        have hSR4 := HSR.out.still HC4.out
        have hlt4 := HSR.out.heap.lt
        have hpl4 := lt_of_heap HSR.out.pool
        have hwr := HBR.out.size
        have I := Lib.hid (hins_ch (b := wr.heap.size) hSR4 (by omega) HFR.out (by rw [HPS.out]; omega) HGB.out (by
          intro hx
          rcases List.mem_cons.1 hx with e | e
          · omega
          · have := hlt4 _ e; omega) HSRC.out)
        have HSR4 := Lib.hid hSR4
        clear hSR4 hlt4
        refine I.out.mono ?_
        rintro e w5 ⟨p, s', left', G', H', rfl, hG', hS5, hF5, hC5⟩
        have HS5 := Lib.hid hS5
        have HF5 := Lib.hid hF5
        have HG5 := Lib.hid hG'
        have HB5 : Hid (Below w.heap.size w w5) := Lib.hid ((HBR.out.trans (HC4.out.below hwr (by simp))).trans (hC5.below (by omega) HSR4.out.below))
        clear hG' hS5 hF5 hC5 I
        have hS5a : HS (w5.alloc (.cells #[.int .i64 p, .int .i64 s'] 53)) w.heap.size pl left' G' H' (.slice A0 k cp0) ps := HS5.out.still ((Chg.refl [] w5).alloc _)
        have hown := hS5a.row
        rw [HPS.out] at hown
        have hsrc2 := Src1.two (w := w5.alloc (.cells #[.int .i64 p, .int .i64 s'] 53)) (e := 53) (u := .int .i64 p) (v := .int .i64 s') rfl rfl
        rw [show (w5.alloc (.cells #[.int .i64 p, .int .i64 s'] 53)).heap.size = w5.heap.size + 1 by simp] at hsrc2
        have HOWN := Lib.hid (Own.alloc hown (.cells #[.int .i64 p, .int .i64 s'] 53))
        have HSRC2 := Lib.hid hsrc2
        have HS5A := Lib.hid hS5a
        clear hS5a hown hsrc2
        go_wp2_with (at_builtin; refine wpList_app rfl (.tmp 42) (.tmp 44) 51 rfl 53 2 16 El51 (.slice A0 k cp0) k (tids ps) rfl HOWN.out (.slice (some ⟨w5.heap.size + 1, 0, none⟩) 1 1) 1 [.int .i64 p, .int .i64 s'] rfl HSRC2.out (k + 1) (tids ps ++ [.int .i64 p, .int .i64 s']) rfl rfl (by unfold maxLen; omega) (by omega) ?_; intro A6 c6 w6 a6; have HA6 := Lib.hid a6; clear a6)
        go_roundw
        case measure => simp [intOf]; omega
        case rel =>
          have a6 := HA6.out
          have hB5 := HB5.out.size
          refine ⟨k + 1, by go_num, by omega, left', G', H', ps ++ [(p, s')], by simp [HPS.out], HG5.out, ?_, HF5.out, ?_⟩
          · have hh := HS5A.out
            exact hh.app' HPS.out (by simp; omega) a6
          · refine ((HB5.out.alloc hB5 _).alloc (by simp; omega) _).trans (a6.chg.below (by simp; omega) ?_)
            intro y hy
            rw [Option.mem_toList] at hy
            exact HS5.out.ger y hy
      · have hke : k = N := by omega
        have HKE := Lib.hid hke
        clear hke
        go_wp2_with fail
        go_meet
        rw [← HKE.out]
        exact ⟨left, G, H, ps, HPS.out, HGB.out, HSR.out, HFR.out, HBR.out⟩
  case rest =>
    clear HS3 HF0 HB3
    obtain ⟨left, G, H, ps, hps, hG, hS, hF, hB⟩ := hcut
    obtain ⟨q0, hq0⟩ : ∃ q, ps[0]? = some q := ⟨_, List.getElem?_eq_getElem (by omega)⟩
    obtain ⟨g, cp, hv, _⟩ := hS.place hq0
    rw [hps] at hv
    subst hv
    have HREL : Hid (ChI w pl hb N 0 (.slice (some ⟨g, 0, none⟩) N cp) wc) := Lib.hid ⟨left, G, H, ps, hps, hG, hS, hF, hB⟩
    clear hq0 hps hG hS hF hB
    obtain ⟨n1, hn1⟩ : ∃ n1, n1 = N - 1 := ⟨_, rfl⟩
    have t2 : (N : Int) - 1 = (n1 : Int) := by omega
    have HN1 : Hid (n1 + 1 = N) := Lib.hid (by omega)
    have HNM : Hid (n1 = N - 1) := Lib.hid hn1
    clear hn1
    go_upto_block 2 with fail
    go_cut [] (fun wx => ChI w pl hb N (N - 1) (.slice (some ⟨g, 0, none⟩) N cp) wx)
    case first =>
      go_wp2_with fail
      go_loopw [49] (fun i wr => ∃ k : Nat, i = .int .i64 k ∧ k ≤ n1 ∧ ChI w pl hb N k (.slice (some ⟨g, 0, none⟩) N cp) wr) (fun i _ => N - (intOf i).toNat)
      case atStart => exact ⟨0, rfl, by omega, HREL.out⟩
      case round =>
        obtain ⟨k, rfl, hk, hrel⟩ := hrel
        have HR := Lib.hid hrel
        clear HREL
        by_cases hlt : k < n1
        · have hn1 := HN1.out
          obtain ⟨left, G, H, ps, hps, hG, hS, hF, hB⟩ := hrel
          obtain ⟨q, hq⟩ : ∃ q, ps[k]? = some q := ⟨_, List.getElem?_eq_getElem (by omega)⟩
          obtain ⟨q', hq'⟩ : ∃ q, ps[k + 1]? = some q := ⟨_, List.getElem?_eq_getElem (by omega)⟩
          obtain ⟨e1, e2⟩ := hS.place' (A := none) rfl hq
          obtain ⟨e3, e4⟩ := hS.place' (A := none) rfl hq'
          have hST := fun (w' : World) (hC : Chg [] wr w') => hstamp_hs (hS.still hC) (by have := hB.size; have := hC.size; omega) hG hF hq (nx_some hq')
          have HST := Lib.hid hST
          have HB := Lib.hid hB
          have HS := Lib.hid hS
          have HPS := Lib.hid hps
          have HGB := Lib.hid hG
          have hli : (k : Int) < (n1 : Int) := by omega
          have t1 : IntKind.i64.wrap ((k : Int) + 1) = (k : Int) + 1 := IntWalk.i64_in _ (by omega)
          have t6 : (0 : Int) ≤ (k : Int) + 1 := by omega
          have t3 : ((k : Int) + 1).toNat = k + 1 := by omega
          have t4 : (k : Int) + 1 < (N : Int) := by omega
          have t5 : (k : Int) < (N : Int) := by omega
          clear hq hq' hps hG hS hF hB hST hn1
          go_wp2_with fail
          go_still_tail 10, (by kernel_rfl)
          go_wp2_with fail
          refine (HST.out _ (by exact (Chg.refl [] wr).same)).mono ?_
          rintro e w5 ⟨rfl, ⟨H', hS5, hF5⟩, hC5⟩
          have HS5 := Lib.hid hS5
          have HF5 := Lib.hid hF5
          have hB5 : Below w.heap.size w w5 := HB.out.trans (((Chg.refl G.foot wr).same.trans hC5).below HB.out.size HS.out.gef)
          have HB5 := Lib.hid hB5
          clear hS5 hF5 hB5 hC5
          go_wp2_with fail
          go_roundw
          case measure => simp [intOf]; omega
          case rel => exact ⟨k + 1, by go_num, by omega, left, G, H', ps, HPS.out, HGB.out, HS5.out, HF5.out, HB5.out⟩
        · have hke : k = N - 1 := by rw [← HNM.out]; omega
          have HKE := Lib.hid hke
          have hli : ¬ (k : Int) < (n1 : Int) := by omega
          clear hke
          go_wp2_with fail
          go_meet
          rw [← HKE.out]
          exact HR.out
    case rest =>
      clear HREL
      obtain ⟨left, G, H, ps, hps, hG, hS, hF, hB⟩ := hcut
      obtain ⟨q, hq⟩ : ∃ q, ps[f0]? = some q := ⟨_, List.getElem?_eq_getElem (by omega)⟩
      obtain ⟨e1, e2⟩ := hS.place' (A := none) rfl hq
      have hfi : (f0 : Int) < (N : Int) := by omega
      have k0 : ((N : Int) == 0) = false := by simp; omega
      have k1 : (N == 0) = false := by simp; omega
      have r2 := R2.out
      have hcp : N ≤ cp := by have := hS.row.cap_le; omega
      have hcf : ¬ cp = f0 := by omega
      have hwe := Own.empty wc 53 2
      have hsrc : Src1 wc 2 (.slice (some ⟨g, f0 * 2, none⟩) (N - f0) (cp - f0)) (N - f0) (tids (ps.drop f0)) := Src1.dropTids (by have := hS.row; rw [hps] at this; exact this) hps
      have HWE := Lib.hid hwe
      have HSRC := Lib.hid (hsrc.alloc (.cells #[] 53))
      have HS := Lib.hid hS
      have HB := Lib.hid hB
      have HF := Lib.hid hF
      have HPS := Lib.hid hps
      have HGB := Lib.hid hG
      have HQ := Lib.hid hq
      have C1 : Hid (N - f0 ≤ maxLen) := Lib.hid (by unfold maxLen; omega)
      have C2 : Hid ((N - f0) * 16 ≤ 140737488355328) := Lib.hid (by omega)
      clear hwe hsrc hS hB hF hps hG hq e1 e2
      go_upto_if 73 with (at_builtin; refine wpList_app rfl (.tmp 68) (.tmp 71) 51 rfl 53 2 16 El51 (.slice (some ⟨wc.heap.size, 0, none⟩) 0 0) 0 [] rfl HWE.out (.slice (some ⟨g, f0 * 2, none⟩) (N - f0) (cp - f0)) (N - f0) (tids (ps.drop f0)) rfl HSRC.out (N - f0) (tids (ps.drop f0)) (Nat.zero_add _) rfl C1.out C2.out ?_; intro A6 c6 w6 a6; have HA6 := Lib.hid a6; clear a6)
      have hC6 : Chg [] wc w6 := by
        refine ((Chg.refl [] wc).alloc (.cells #[] 53)).trans' HA6.out.chg ?_
        intro x hx
        right
        rw [Option.mem_toList] at hx
        simp [Value.ownBlock] at hx
        omega
      have hS6 := HS.out.still hC6
      have hB6 : Below w.heap.size w w6 := HB.out.trans (hC6.below HB.out.size (by simp))
      have hO6 := HA6.out.own
      have HK6 : Hid (∀ k, (Value.slice A6 (N - f0) c6).ownBlock = some k → wc.heap.size ≤ k) := Lib.hid (by
        intro k hk
        rcases HA6.out.at_ k hk with e | e
        · simp [Value.ownBlock] at e; omega
        · simp at e; omega)
      have HGL : Hid (g < wc.heap.size) := Lib.hid (HS.out.row.lt' g rfl)
      have HS6 := Lib.hid hS6
      have HB6 := Lib.hid hB6
      have HO6 := Lib.hid hO6
      clear hS6 hB6 hO6 hC6
      go_cut [16] (fun v wx => ChT w pl hb g N cp f0 v wx)
      case first =>
        cases circ with
        | false =>
          go_wp2_with fail
          go_meet
          refine ⟨left, G, H, ps, q, ps.drop f0, HPS.out, HGB.out, HS6.out, HQ.out, ?_, ?_, nget_small HS6.out.heap (HF.out.at_ _ _ HQ.out), ?_, chn_line HF.out HPS.out HQ.out, HB6.out⟩
          · rw [List.length_drop, HPS.out]; omega
          · have := HF.out.len; rw [HPS.out] at this; omega
          · rw [List.length_drop, HPS.out]; exact HO6.out
        | true =>
          have hn1 := HN1.out
          obtain ⟨qN, hqN⟩ : ∃ q, ps[n1]? = some q := ⟨_, List.getElem?_eq_getElem (by rw [HPS.out]; omega)⟩
          obtain ⟨q0, hq0⟩ : ∃ q, ps[0]? = some q := ⟨_, List.getElem?_eq_getElem (by rw [HPS.out]; omega)⟩
          obtain ⟨e1, e2⟩ := HS6.out.place' (A := none) rfl hqN
          obtain ⟨e3, e4⟩ := HS6.out.place' (A := none) rfl hq0
          simp only [Nat.zero_mul, Nat.zero_add] at e3 e4
          have hST := fun (w' : World) (hC : Chg [] w6 w') => hstamp_hs (HS6.out.still hC) (by have := HB6.out.size; have := hC.size; omega) HGB.out (by rw [HNM.out]; exact HF.out) hqN (nx_last (by rw [HPS.out]; omega) hq0)
          have HST := Lib.hid hST
          have t1 : IntKind.i64.wrap (n1 : Int) = (n1 : Int) := IntWalk.i64_in _ (by omega)
          have t4 : (n1 : Int) < (N : Int) := by omega
          have t5 : (0 : Int) < (N : Int) := by omega
          clear hqN hq0 hST hn1
          go_wp2_with fail
          go_still_tail 9, (by kernel_rfl)
          go_wp2_with fail
          refine (HST.out _ (by exact (Chg.refl [] w6).same)).mono ?_
          rintro e w7 ⟨rfl, ⟨H7, hS7, hF7⟩, hC7⟩
          have hC7' : Chg G.foot w6 w7 := (Chg.refl G.foot w6).same.trans hC7
          have hO7 := HO6.out.chg hC7' (HS6.out.heap.offRow HO6.out)
          have hsrc7 := Src1.takeTids (c := cp) (f := f0) (by have := hS7.row; rw [HPS.out] at this; exact this) HPS.out (by omega)
          have hB7 : Below w.heap.size w w7 := HB6.out.trans (hC7'.below HB6.out.size HS6.out.gef)
          have HS7 := Lib.hid hS7
          have HF7 := Lib.hid hF7
          have HB7 := Lib.hid hB7
          have HO7 := Lib.hid hO7
          have HSRC7 := Lib.hid hsrc7
          have C3 : Hid (N ≤ maxLen) := Lib.hid (by unfold maxLen; omega)
          have C4 : Hid (N * 16 ≤ 140737488355328) := Lib.hid (by omega)
          have C5 : Hid (N - f0 + f0 = N) := Lib.hid (by omega)
          have C6 : Hid (w.heap.size ≤ wc.heap.size) := Lib.hid HB.out.size
          have hfcp : (f0 : Int) ≤ (cp : Int) := by omega
          clear hS7 hF7 hC7 hC7' hO7 hsrc7 hB7 t1 e1 e2 e3 e4
          go_wp2_with (at_builtin; refine wpList_app rfl (.tmp 84) (.tmp 87) 51 rfl 53 2 16 El51 (.slice A6 (N - f0) c6) (N - f0) (tids (ps.drop f0)) rfl HO7.out (.slice (some ⟨g, 0, none⟩) f0 cp) f0 (tids (ps.take f0)) rfl HSRC7.out N (tids (ps.drop f0) ++ tids (ps.take f0)) C5.out rfl C3.out C4.out ?_; intro A8 c8 w8 a8; have HA8 := Lib.hid a8; clear a8)
          go_meet
          have hS8 : Yteokjaocnemmlaa.HS w8 w.heap.size pl left G H7 (.slice (some ⟨g, 0, none⟩) N cp) ps := by
            refine HS7.out.aside HA8.out.chg ?_ ?_
            · intro x hx hm
              rw [Option.mem_toList] at hm
              rcases List.mem_cons.1 hx with rfl | hx
              · obtain ⟨cs, hc⟩ := HO7.out.block hm
                exact ne_of_type hc HS7.out.pool (by decide) rfl
              · exact HS7.out.heap.offRow HO7.out x hm hx
            · intro k hk hm
              rw [Option.mem_toList] at hm
              have := HK6.out k hm
              have h2 := HGL.out
              simp [Value.ownBlock] at hk
              omega
          have hF8 := HF7.out
          rw [HN1.out] at hF8
          refine ⟨left, G, H7, ps, q, ps.drop f0 ++ ps.take f0, HPS.out, HGB.out, hS8, HQ.out, ?_, ?_, nget_small hS8.heap (hF8.at_ _ _ HQ.out), ?_, chn_circle hF8 HPS.out HQ.out, ?_⟩
          · rw [List.length_append, List.length_drop, List.length_take, HPS.out]; omega
          · have := hF8.len; rw [HPS.out] at this; omega
          · have h8 := HA8.out.own
            rw [show tids (ps.drop f0) ++ tids (ps.take f0) = tids (ps.drop f0 ++ ps.take f0) by unfold tids; simp] at h8
            rw [List.length_append, List.length_drop, List.length_take, HPS.out, show N - f0 + min f0 N = N by omega]
            exact h8
          · refine HB7.out.trans (HA8.out.chg.below HB7.out.size ?_)
            intro x hx
            rw [Option.mem_toList] at hx
            have := HK6.out x hx
            have := C6.out
            omega
      case rest =>
        obtain ⟨left, G, H, ps, q, r, hps, hG, hS, hq, hr, hH, hqs, hO, hR, hB⟩ := hcut
        obtain ⟨A9, c9, hv9⟩ := hO.form'
        subst hv9
        obtain ⟨e1, e2⟩ := hS.place' (A := none) rfl hq
        have I1 := Lib.hid (chain_is hS hG hqs.1 hqs.2 hR)
        have HS9 := Lib.hid hS
        have HO9 := Lib.hid hO
        have HB9 := Lib.hid hB
        have HG9 := Lib.hid hG
        have HH9 := Lib.hid hH
        have HR9 := Lib.hid hr
        clear hps hG hS hq hr hH hqs hO hR hB
        go_wp2_with fail
        refine I1.out.mono ?_
        rintro e w5 ⟨A5, c5, rfl, hO5, hC5⟩
        have hB5 := HB9.out.trans (hC5.below HB9.out.size (by simp))
        have hS5 := HS9.out.still hC5
        have I2 := Lib.hid (same_places hO5 (HO9.out.chg hC5 (by simp)) (by have := HR9.out; omega))
        have HS5 := Lib.hid hS5
        have HB5 := Lib.hid hB5
        clear hO5 hC5 hB5 hS5
        go_wp2_with fail
        refine I2.out.mono ?_
        rintro e w6 ⟨rfl, n6, rfl⟩
        have I3 := Lib.hid (chain_is (p := 99) (s := 0) (HS5.out.still ((Chg.refl [] w5).drewN n6)) HG9.out (by omega) (by omega) (.gone [] _ _ rfl (hget_big (p := 99) (s := 0) (by have := HH9.out; omega))))
        go_wp2_with fail
        refine I3.out.mono ?_
        rintro e w7 ⟨A7, c7, rfl, hO7, hC7⟩
        have HC7 := Lib.hid hC7
        clear hO7 hC7
        go_wp2_with fail
        go_ret
        refine ⟨rfl, HB5.out.trans (((Chg.refl [] w5).drewN n6).trans HC7.out |>.below HB5.out.size (by simp))⟩
end Go.Proofs.Yteokjaocnemmlaa
