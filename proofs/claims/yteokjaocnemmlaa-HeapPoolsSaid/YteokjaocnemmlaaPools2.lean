/-
  The walk of HeapPools.
-/
import Derived.Test.YteokjaocnemmlaaPools1
namespace Go.Proofs.Yteokjaocnemmlaa
open Go.RowKit

/-- What Few of a call's version answers. -/
theorem few_op {w wr : World} {b off : Nat} {o : OpV} (h : OpAt w b off o) (hB : Below w.heap.size w wr) (w0 : World) (hC : Chg [] wr w0) :
    Calls Try.prog 29 #[.agg #[.int .u64 o.t.row, .int .u64 o.t.xmin, .int .u64 o.t.xmax, .int .i64 o.t.np, .int .i64 o.t.ns, .slice o.A o.n o.c]] w0 fun e w' =>
      ∃ A m c, e = .returned (.agg #[.int .u64 o.t.row, .int .u64 o.t.xmin, .int .u64 o.t.xmax, .int .i64 o.t.np, .int .i64 o.t.ns, .slice A m c]) ∧ m = o.cut.data.length ∧ Cloned w0 w' (.slice A m c) o.cut.data := by
  have h1 := h.below hB
  refine (few_any _ _ _ _ _ o.A o.n o.c o.t.data w0 (h1.data.chg hC (by simp)) h.nil h.le h.cap).mono ?_
  rintro e w' ⟨A, m, c, rfl, hm, hcl⟩
  exact ⟨A, m, c, rfl, by rw [hm, ← h.data.1]; unfold OpV.cut; rw [List.length_take, Nat.min_comm], hcl⟩
theorem wf_u64 {n : Int} (h : (Lit.int .u64 n).wf = true) : 0 ≤ n := by
  simp [Lit.wf, IntKind.min, IntKind.max, IntKind.signed, IntKind.bits] at h
  omega

/-- The numbers that are asked for at a round's end. -/
structure PlN (pl hb0 hb1 K m0 m1 left : Nat) (wx : World) : Prop where
  p0 : ∀ w0, Chg [] wx w0 → Calls Try.prog 39 #[.pointer (some ⟨hb0, 0, none⟩)] w0 fun e w' => e = .returned (.int .i64 m0) ∧ w0 = w'
  p1 : ∀ w0, Chg [] wx w0 → Calls Try.prog 39 #[.pointer (some ⟨hb1, 0, none⟩)] w0 fun e w' => e = .returned (.int .i64 m1) ∧ w0 = w'
  l : ∀ w0, Chg [] wx w0 → Calls Try.prog 28 #[.pointer (some ⟨pl, 0, none⟩)] w0 fun e w' => e = .returned (.int .i64 left) ∧ w0 = w'
  sum : m0 + m1 + left = K
theorem PlS.nums {w wx : World} {pl hb0 hb1 ar K : Nat} (h : PlS w pl hb0 hb1 ar K wx) : ∃ m0 m1 left, PlN pl hb0 hb1 K m0 m1 left wx := by
  obtain ⟨G0, G1, H0, H1, left, e0, e1, h2, hs, ha, hB⟩ := h
  refine ⟨H0.length, H1.length, left, ?_, ?_, ?_, hs⟩
  · intro w0 hC
    have := pages_heap (h2.still hC).h0
    rw [e0] at this
    exact this
  · intro w0 hC
    have := pages_heap (h2.still hC).h1
    rw [e1] at this
    exact this
  · intro w0 hC
    exact left_any pl left w0 (h2.still hC).pool
theorem PlS.arr {w wx : World} {pl hb0 hb1 ar K : Nat} (h : PlS w pl hb0 hb1 ar K wx) : wx.heap[ar]? = some (.cells #[.pointer (some ⟨hb0, 0, none⟩), .pointer (some ⟨hb1, 0, none⟩)] 68 (0, 0)) := by
  obtain ⟨_, _, _, _, _, _, _, _, _, ha, _⟩ := h
  exact ha

set_option maxRecDepth 100000 in
set_option maxHeartbeats 8000000 in
theorem hpools_law (z : Nat) (A : Option Addr) (n cap : Nat) (ops : Nat → OpV) (w : World) (hin : InScr w A n ops) :
    Calls Try.prog 9 #[.int .u8 z, .slice A n cap] w fun e w' => e = .returned (.bool true) ∧ Below w.heap.size w w' := by
  have HIN := Lib.hid hin
  clear hin
  obtain ⟨K, hK⟩ : ∃ K, K = z % 12 := ⟨_, rfl⟩
  have hK12 : K < 12 := by omega
  have r1 : Int.tmod (z : Int) 12 = (K : Int) := by rw [hK]; rfl
  have w1' : IntKind.i64.wrap (K : Int) = (K : Int) := IntWalk.i64_in _ (by omega)
  clear hK
  go_enter Try.func9, Try.ntmps9
  go_wp2_with fail
  refine (awake7 _).mono ?_
  rintro e w1 ⟨rfl, hC1⟩
  have HC1 := Lib.hid hC1
  have hs1 := hC1.size
  clear hC1
  go_wp2_with fail
  refine (newPool_any K _ (by omega)).mono ?_
  rintro e w2 ⟨rfl, hp2, hC2, hs2⟩
  have HP2 := Lib.hid hp2
  have HC2 := Lib.hid (HC1.out.trans hC2)
  clear hp2 hC2
  unfold ptrV
  go_wp2_with fail
  refine (heapNew_any w1.heap.size w2).mono ?_
  rintro e w3 ⟨hb0, rfl, ⟨rb0, hh3, hb3, rb3⟩, hC3⟩
  have HH3 := Lib.hid hh3
  have HP3 := Lib.hid (HP2.out.chg hC3 (by simp))
  have HC3 := Lib.hid (HC2.out.trans hC3)
  have hs3 := hC3.size
  clear hh3 hC3 HC2 HP2
  unfold ptrV
  go_wp2_with fail
  refine (heapNew_any w1.heap.size w3).mono ?_
  rintro e w4 ⟨hb1, rfl, ⟨rb1, hh4, hb4, rb4⟩, hC4⟩
  have hlt3 := HH3.out.lt
  have HT4 : Hid (Two w4 w.heap.size w1.heap.size ⟨hb0, rb0, .slice none 0 0, []⟩ ⟨hb1, rb1, .slice none 0 0, []⟩ [] [] K) := Lib.hid (by
    have h0 := hlt3 hb0 (mem_foot.2 (.inl rfl))
    have h1 := hlt3 rb0 (mem_foot.2 (.inr (.inl rfl)))
    refine ⟨HH3.out.chg hC4 (by simp), hh4, HP3.out.chg hC4 (by simp), ?_, hs1, ?_, ?_⟩
    · intro x hx hm
      rcases mem_foot.1 hx with e | e | e | e
      · rcases mem_foot.1 hm with e' | e' | e' | e'
        · simp at e e'; omega
        · simp at e e'; omega
        · simp [Value.ownBlock] at e'
        · simp at e'
      · rcases mem_foot.1 hm with e' | e' | e' | e'
        · simp at e e'; omega
        · simp at e e'; omega
        · simp [Value.ownBlock] at e'
        · simp at e'
      · simp [Value.ownBlock] at e
      · simp at e
    · intro x hx
      rcases mem_foot.1 hx with e | e | e | e
      · simp at e; omega
      · simp at e; omega
      · simp [Value.ownBlock] at e
      · simp at e
    · intro x hx
      rcases mem_foot.1 hx with e | e | e | e
      · simp at e; omega
      · simp at e; omega
      · simp [Value.ownBlock] at e
      · simp at e)
  have HB4 : Hid (Below w.heap.size w w4) := Lib.hid ((HC3.out.trans hC4).below (Nat.le_refl _) (by simp))
  clear hh4 hC4 HC3 HP3 HH3 HC1 hlt3
  unfold ptrV
  obtain ⟨pl, hpl⟩ : ∃ pl, pl = w1.heap.size := ⟨_, rfl⟩
  rw [← hpl] at HT4 ⊢
  clear hpl hs2 hb3 rb3 hb4 rb4 hs3
  go_upto_block 0 with fail
  generalize hwa : w4.alloc _ = wa
  obtain ⟨ar, har⟩ : ∃ ar, ar = w4.heap.size := ⟨_, rfl⟩
  have HPA : Hid (PlS w pl hb0 hb1 ar K wa) := Lib.hid (by
    have hCa : Chg [] w4 wa := by rw [← hwa]; exact (Chg.refl _ _).alloc _
    refine ⟨_, _, [], [], K, rfl, rfl, HT4.out.still hCa, by simp, ?_, HB4.out.trans (hCa.below HB4.out.size (by simp))⟩
    rw [← hwa, har]
    exact heap_alloc_new w4 _)
  rw [← har]
  clear hwa har HT4 HB4
  go_cut [] (fun wx => PlS w pl hb0 hb1 ar K wx)
  case first =>
    go_wp2_with fail
    go_loopw [29] (fun i wr => ∃ j : Nat, i = .int .i64 j ∧ j ≤ n ∧ PlS w pl hb0 hb1 ar K wr) (fun i _ => n - (intOf i).toNat)
    case atStart => exact ⟨0, rfl, by omega, HPA.out⟩
    case round =>
      obtain ⟨j, rfl, hj, hS⟩ := hrel
      have HS := Lib.hid hS
      clear hS HPA
      by_cases hlt : j < n
      · obtain ⟨b, off, rfl, hops⟩ := HIN.out (by omega)
        have ho := hops j hlt
        have hBr : Below w.heap.size w wr := by obtain ⟨_, _, _, _, _, _, _, _, _, _, hB⟩ := HS.out; exact hB
        obtain ⟨o, ho'⟩ : ∃ o, o = ops j := ⟨_, rfl⟩
        rw [← ho'] at ho
        have HO := Lib.hid ho
        have HF := Lib.hid (few_op ho hBr)
        obtain ⟨c0, c1, c2, c3, c4, c5, c6, c7, c8, c9, wd, _⟩ := ho.below hBr
        clear ho hops ho' hBr
        by_cases h60 : j < 60
        · have d3 : decide ((60 : Int) ≤ j) = false := by simp; omega
          have d4 : decide (60 ≤ j) = false := by simp; omega
          have a0 := two0 HS.out.arr
          have a1 := two1 HS.out.arr
          have harl : ar < wr.heap.size := lt_of_heap HS.out.arr
          obtain ⟨d9, hd9⟩ : ∃ d9, d9 = o.d % 9 := ⟨_, rfl⟩
          have r9 : Int.tmod (o.d : Int) 9 = (d9 : Int) := by rw [hd9]; rfl
          have hd9l : d9 < 9 := by omega
          obtain ⟨d, hd⟩ : ∃ d, d = o.d := ⟨_, rfl⟩
          rw [← hd] at c0 r9 wd
          have hC0 := HS.out.still ((Chg.refl [] wr).alloc (.cells #[.int .u8 d, .bool o.two, .int .i64 o.p, .int .i64 o.s, .int .u64 o.t.row, .int .u64 o.t.xmin, .int .u64 o.t.xmax, .int .i64 o.t.np, .int .i64 o.t.ns, .slice o.A o.n o.c] 75))
          have HS0 := Lib.hid hC0
          clear hC0 hd9 hd
          obtain ⟨two, htwo⟩ : ∃ two, two = o.two := ⟨_, rfl⟩
          rw [← htwo] at c1 HS0
          clear htwo
          obtain ⟨wb, hwb⟩ : ∃ wb, wb = wr.alloc (.cells #[.int .u8 d, .bool two, .int .i64 o.p, .int .i64 o.s, .int .u64 o.t.row, .int .u64 o.t.xmin, .int .u64 o.t.xmax, .int .i64 o.t.np, .int .i64 o.t.ns, .slice o.A o.n o.c] 75) := ⟨_, rfl⟩
          have HWB := Lib.hid hwb
          rw [← hwb] at HS0
          clear hwb
          go_upto_if 39 with fail
          go_cut [11] (fun s11 wx => (∃ x, s11 = .pointer (some ⟨x, 0, none⟩) ∧ (x = hb0 ∨ x = hb1)) ∧ wx = wb)
          case first =>
            cases two with
            | false =>
              go_wp2_with fail
              go_meet
              exact ⟨⟨hb0, rfl, .inl rfl⟩, HWB.out.symm⟩
            | true =>
              go_wp2_with fail
              go_meet
              exact ⟨⟨hb1, rfl, .inr rfl⟩, HWB.out.symm⟩
          case rest =>
            obtain ⟨⟨x, rfl, hx⟩, rfl⟩ := hcut
            have HX := Lib.hid hx
            clear hx a0 a1 c0 c1 c2 c3 c4 c5 c6 c7 c8 c9
            have hbox : wc.heap[wr.heap.size]? = some (.cells #[.int .u8 d, .bool two, .int .i64 o.p, .int .i64 o.s, .int .u64 o.t.row, .int .u64 o.t.xmin, .int .u64 o.t.xmax, .int .i64 o.t.np, .int .i64 o.t.ns, .slice o.A o.n o.c] 75 (0, 0)) := by rw [HWB.out]; exact heap_alloc_new wr _
            have k0 : wc.cell? ⟨wr.heap.size, 0, none⟩ = some (.int .u8 d) := by rw [cell_of_row _ _ _ _ _ _ hbox]; rfl
            have k4 : wc.cell? ⟨wr.heap.size, 4, none⟩ = some (.int .u64 o.t.row) := by rw [cell_of_row _ _ _ _ _ _ hbox]; rfl
            have k5 : wc.cell? ⟨wr.heap.size, 5, none⟩ = some (.int .u64 o.t.xmin) := by rw [cell_of_row _ _ _ _ _ _ hbox]; rfl
            have k6 : wc.cell? ⟨wr.heap.size, 6, none⟩ = some (.int .u64 o.t.xmax) := by rw [cell_of_row _ _ _ _ _ _ hbox]; rfl
            have k7 : wc.cell? ⟨wr.heap.size, 7, none⟩ = some (.int .i64 o.t.np) := by rw [cell_of_row _ _ _ _ _ _ hbox]; rfl
            have k8 : wc.cell? ⟨wr.heap.size, 8, none⟩ = some (.int .i64 o.t.ns) := by rw [cell_of_row _ _ _ _ _ _ hbox]; rfl
            have k9 : wc.cell? ⟨wr.heap.size, 9, none⟩ = some (.slice o.A o.n o.c) := by rw [cell_of_row _ _ _ _ _ _ hbox]; rfl
            have HCW : Hid (Chg [] wr wc) := Lib.hid (by rw [HWB.out]; exact (Chg.refl [] wr).alloc _)
            clear hbox
            go_upto_if 45 with fail
            go_cut [] (fun wx => PlS w pl hb0 hb1 ar K wx)
            case first =>
              by_cases h8 : d9 = 8
              · have q1 : ((d9 : Int) == 8) = true := by simp; omega
                have q2 : (d9 == 8) = true := by simp; omega
                clear h8
                go_wp2_with fail
                refine (drop_pl HS0.out (by omega) x HX.out).mono ?_
                rintro e w5 ⟨⟨m, rfl⟩, hS5⟩
                have HS5 := Lib.hid hS5
                clear hS5
                go_wp2_with fail
                go_meet
                exact HS5.out
              · have q1 : ((d9 : Int) == 8) = false := by simp; omega
                have q2 : (d9 == 8) = false := by simp; omega
                clear h8
                go_wp2_with fail
                refine (HF.out _ HCW.out).mono ?_
                rintro e w5 ⟨A5, m5, c5, rfl, hm5, hcl5⟩
                have I := Lib.hid (ins_pl HS0.out (by omega) x HX.out o.cut A5 m5 c5 hm5 (wf_u64 HO.out.wr) (wf_u64 HO.out.wx) (wf_u64 HO.out.wy) (fun y hy => HO.out.byte y (List.mem_of_mem_take hy)) hcl5)
                clear hm5 hcl5
                go_wp2_with fail
                refine I.out.mono ?_
                rintro e w6 ⟨⟨p6, s6, code6, rfl⟩, hS6⟩
                have HS6 := Lib.hid hS6
                clear hS6
                go_wp2_with fail
                go_meet
                exact HS6.out
            case rest =>
              clear k0 k4 k5 k6 k7 k8 k9
              have HSX := Lib.hid hcut
              clear hcut
              obtain ⟨m0, m1, left, hN⟩ := HSX.out.nums
              obtain ⟨s01, hs01⟩ : ∃ s01, s01 = m0 + m1 := ⟨_, rfl⟩
              have hsum := hN.sum
              have HN := Lib.hid hN
              have a0 := two0 HSX.out.arr
              have a1 := two1 HSX.out.arr
              have t1 : IntKind.i64.wrap ((m0 : Int) + (m1 : Int)) = (s01 : Int) := by rw [show (m0 : Int) + (m1 : Int) = (s01 : Int) by omega]; exact IntWalk.i64_in _ (by omega)
              have t2 : IntKind.i64.wrap ((s01 : Int) + (left : Int)) = (K : Int) := by rw [show (s01 : Int) + (left : Int) = (K : Int) by omega]; exact IntWalk.i64_in _ (by omega)
              have t3 : ((K : Int) != (K : Int)) = false := by simp
              have t4 : decide ((left : Int) < 0) = false := by simp
              clear hN hsum hs01
              go_wp2_with fail
              go_quiet ((first | (go_at_call 39; exact quiet_here (HN.out.p0 _ (by exact (Chg.refl [] _).same))) | (go_at_call 39; exact quiet_here (HN.out.p1 _ (by exact (Chg.refl [] _).same))) | (go_at_call 28; exact quiet_here (HN.out.l _ (by exact (Chg.refl [] _).same)))))
              go_wp2_with fail
              go_roundw
              case measure => simp [intOf]; omega
              case rel => exact ⟨j + 1, by go_num, by omega, HSX.out.still ((Chg.refl [] wc).drewN _)⟩
        · have d3 : decide ((60 : Int) ≤ j) = true := by simp; omega
          have d4 : decide (60 ≤ j) = true := by simp; omega
          go_wp2_with fail
          go_meet
          exact HS.out.still ((Chg.refl [] wr).alloc _)
      · go_wp2_with fail
        go_meet
        exact HS.out
  case rest =>
    obtain ⟨G0, G1, H0, H1, left, rfl, rfl, h2, hs, ha, hB⟩ := hcut
    have a0 := two0 ha
    have I0 := Lib.hid (drop_first h2 hB.size (by omega))
    have HT := Lib.hid h2
    have HA := Lib.hid ha
    have HB := Lib.hid hB
    have HSM := Lib.hid hs
    clear h2 hs ha hB HPA
    go_wp2_with fail
    refine I0.out.mono ?_
    rintro e w5 ⟨rfl, ⟨G', hG, h5⟩, hC5⟩
    have hA5 := hC5.heap HA.out (HT.out.off HA.out (by decide) (by decide) (by decide) (by decide) (by decide))
    have hB5 : Below w.heap.size w w5 := HB.out.trans (hC5.below HB.out.size HT.out.below)
    have a1 := two1 hA5
    have I1 := Lib.hid (drop_first h5.swap hB5.size (by have := HSM.out; simp; omega))
    have HT5 := Lib.hid h5
    have HB5 := Lib.hid hB5
    clear h5 hC5 hA5 hB5 hG a0
    go_wp2_with fail
    refine I1.out.mono ?_
    rintro e w6 ⟨rfl, ⟨G'', hG'', h6⟩, hC6⟩
    have hp6 := h6.pool
    rw [show left + H0.length + H1.length = K by have := HSM.out; omega] at hp6
    have I2 := left_any pl K w6 hp6
    unfold ptrV at I2
    have I2 := Lib.hid I2
    have HB6 : Hid (Below w.heap.size w w6) := Lib.hid (HB5.out.trans (hC6.below HB5.out.size HT5.out.swap.below))
    clear h6 hC6 hp6 hG''
    go_wp2_with (first | (go_at_call 28; refine I2.out.mono ?_; rintro e w7 ⟨rfl, rfl⟩))
    go_ret
    refine ⟨by simp, HB6.out⟩
end Go.Proofs.Yteokjaocnemmlaa
