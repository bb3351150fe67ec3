/-
  The walk of package heap's Chain.
-/
import Derived.Test.YteokjaocnemmlaaHeap10
import Derived.Test.YteokjaocnemmlaaSeen
import Derived.Test.YteokjaocnemmlaaChainP
import Derived.Laws.OwnMore
import Derived.Deep.CutBlock
namespace Go.Proofs.Yteokjaocnemmlaa
open Go.RowKit

def lenV : Value → Nat
  | .slice _ n _ => n
  | _ => 0
/-- What Chain answers. -/
def ChainOf (H : List PL) (w : World) (p s : Int) (e : Ending) (w' : World) : Prop :=
  ∃ v r, e = .returned v ∧ Own w' 53 2 v r.length (tids r) ∧ Chn H [] p s r ∧ Chg [] w w' ∧ ∀ k, v.ownBlock = some k → w.heap.size ≤ k
theorem wf_i64 {p : Int} (h : -9223372036854775808 ≤ p) (h' : p ≤ 9223372036854775807) : (Lit.int .i64 p).wf = true := by
  simp [Lit.wf, IntKind.min, IntKind.max, IntKind.signed, IntKind.bits]
  omega
theorem wf_far {t : Tup} (h : t.Ok) : (Lit.int .i64 t.np).wf = true ∧ (Lit.int .i64 t.ns).wf = true := by
  have := farB_false h.far
  exact ⟨wf_i64 (by omega) (by omega), wf_i64 (by omega) (by omega)⟩

theorem Seen.off {w : World} {b n m e size : Nat} {S : Int → Int → Bool} {v : Value} {xs : List Value} (h : Seen w b m S) (hO : Own w e size v n xs) : v.ownBlock ≠ some b := by
  rcases hO.2 with ⟨rfl, _⟩ | ⟨g, cap, cur, rfl, _, hh, _⟩
  · simp [Value.ownBlock]
  · intro he
    injection he with he
    exact h.ne hh he.symm
theorem used_sum {H : List PL} (h : ∀ (i : Nat) (L : PL), H[i]? = some L → usedN L ≤ 128) : usedH H ≤ H.length * 128 := by
  induction H with
  | nil => simp [usedH]
  | cons L H ih =>
    have h0 := h 0 L rfl
    have := ih (fun i L' hL => h (i + 1) L' (by simpa using hL))
    unfold usedH at this ⊢
    simp only [List.map_cons, List.sum_cons, List.length_cons]
    omega
theorem HeapAt.used_le {w : World} {pl : Nat} {G : HG} {H : List PL} (h : HeapAt w pl G H) : usedH H ≤ 32768 := by
  have h1 := h.h256
  have := used_sum (H := H) (fun i L hL => by
    obtain ⟨b, _, f, fr, st, _, h2⟩ := h.ptr_of hL
    have h3 := h2.fits
    have h4 : usedN L ≤ L.length := List.countP_le_length
    omega)
  omega
set_option maxRecDepth 100000 in
set_option maxHeartbeats 8000000 in
theorem chain_any {w : World} {pl : Nat} {G : HG} {H : List PL} (h : HeapAt w pl G H) (p s : Int) (hp : (Lit.int .i64 p).wf = true) (hs : (Lit.int .i64 s).wf = true) :
    Calls Try.prog 27 #[.pointer (some ⟨G.hb, 0, none⟩), .agg #[.int .i64 p, .int .i64 s]] w fun e w' => ChainOf H w p s e w' := by
  have HH := Lib.hid h
  have HP := Lib.hid hp
  have HSS := Lib.hid hs
  clear h hp hs
  have hmm := @run_makeMap Try.prog
  go_enter Try.func27, Try.ntmps27
  go_upto_block 0 with fail
  obtain ⟨bx, hbx⟩ : ∃ bx, bx = w.heap.size := ⟨_, rfl⟩
  obtain ⟨mb, hmb⟩ : ∃ mb, mb = bx + 1 := ⟨_, rfl⟩
  generalize hwa : World.alloc _ _ = wa
  have hCa : Chg [] w wa := by rw [← hwa]; exact ((Chg.refl [] w).alloc _).alloc _
  have hXa : wa.heap[bx]? = some (.cells #[.int .i64 p, .int .i64 s] 53 (0, 0)) := by rw [← hwa, hbx]; exact (Below.heap_alloc _ _ _ (by simp)).trans (heap_alloc_new w _)
  have hMa : Seen wa mb 0 (inL []) := by
    have := Seen.made (w.alloc (.cells #[.int .i64 p, .int .i64 s] 53))
    rw [show (w.alloc (.cells #[.int .i64 p, .int .i64 s] 53)).heap.size = mb by rw [hmb, hbx]; simp, hwa] at this
    exact this
  have HCa := Lib.hid hCa
  have HXa := Lib.hid hXa
  have HMa := Lib.hid hMa
  have HMB : Hid (w.heap.size ≤ mb ∧ bx < mb) := Lib.hid (by omega)
  rw [← hbx, ← hmb]
  have HBX : Hid (w.heap.size ≤ bx) := Lib.hid (by omega)
  clear hwa hCa hXa hMa hmb hmm hbx
  go_cut [5] (fun s5 wx => ∃ r, Own wx 53 2 s5 r.length (tids r) ∧ Chn H [] p s r ∧ Chg [] w wx ∧ ∀ k, s5.ownBlock = some k → w.heap.size ≤ k)
  case rest =>
    obtain ⟨r, hO, hR, hC, hK⟩ := hcut
    have HO := Lib.hid hO
    have HR := Lib.hid hR
    have HC := Lib.hid hC
    have HK := Lib.hid hK
    obtain ⟨A0, c0, rfl⟩ := hO.form'
    clear hO hR hC hK
    go_wp2
    go_ret
    exact ⟨_, r, rfl, HO.out, HR.out, HC.out, HK.out⟩
  case first =>
    go_wp2_with fail
    go_loopw [5] (fun v wr => ∃ (l : List (Nat × Nat)) (p1 s1 : Int), Own wr 53 2 v l.length (tids l) ∧ Seen wr mb l.length (inL l) ∧ wr.heap[bx]? = some (.cells #[.int .i64 p1, .int .i64 s1] 53 (0, 0)) ∧ (Lit.int .i64 p1).wf = true ∧ (Lit.int .i64 s1).wf = true ∧ l.Nodup ∧ (∀ q, q ∈ l → ∃ t, nget H q.1 q.2 = some t) ∧ (∀ r, Chn H l p1 s1 r → Chn H [] p s (l ++ r)) ∧ Chg [] w wr ∧ ∀ k, v.ownBlock = some k → w.heap.size ≤ k ∧ k ≠ bx) (fun v _ => usedH H - lenV v)
    case atStart => exact ⟨[], p, s, ⟨rfl, .inl ⟨rfl, rfl⟩⟩, HMa.out, HXa.out, HP.out, HSS.out, List.nodup_nil, by simp, fun r hr => hr, HCa.out, by simp [Value.ownBlock]⟩
    case round =>
      obtain ⟨l, p1, s1, hO, hM, hX, hp1, hs1, hnd, hin, hgo, hCr, hK⟩ := hrel
      have HO := Lib.hid hO
      have HM := Lib.hid hM
      have HX := Lib.hid hX
      have HP1 := Lib.hid hp1
      have HS1 := Lib.hid hs1
      have HND := Lib.hid hnd
      have HIN := Lib.hid hin
      have HGO := Lib.hid hgo
      have HCR := Lib.hid hCr
      have HK := Lib.hid hK
      obtain ⟨A0, c0, hv0⟩ := hO.form'
      subst hv0
      have b0 := two0 hX
      have b1 := two1 hX
      clear hO hM hX hp1 hs1 hnd hin hgo hCr hK HMa HXa HCa
      by_cases hse : inL l p1 s1 = true
      · have HSE := Lib.hid hse
        clear hse
        go_wp2_with (first | (at_lookup; refine wpList_seen rfl _ _ rfl mb l.length (inL l) p1 s1 true rfl rfl HM.out HP1.out HS1.out HSE.out ?_))
        go_meet
        exact ⟨l, HO.out, by simpa using HGO.out [] (.seen l p1 s1 HSE.out), HCR.out, fun k hk => (HK.out k hk).1⟩
      · have hse' : inL l p1 s1 = false := by simpa using hse
        have HSE := Lib.hid hse'
        clear hse hse'
        have hHr := HH.out.below HCR.out (by simp)
        have HHR := Lib.hid hHr
        cases hg : hget H p1 s1 with
        | none =>
          have HG := Lib.hid hg
          have I := Lib.hid (hget_no hHr hg)
          clear hg hHr
          go_wp2_with (first | (at_lookup; refine wpList_seen rfl _ _ rfl mb l.length (inL l) p1 s1 false rfl rfl HM.out HP1.out HS1.out HSE.out ?_) | (go_at_call 42; refine I.out.mono ?_; rintro e w6 ⟨rfl, hC6⟩; have HC6 := Lib.hid hC6; clear hC6; unfold zeroTup))
          go_meet
          have hC := (HC6.out.alloc (.cells #[.int .u64 0, .int .u64 0, .int .u64 0, .int .i64 0, .int .i64 0, .slice none 0 0] 59))
          exact ⟨l, HO.out.chg hC (by simp), by simpa using HGO.out [] (.gone l p1 s1 HSE.out HG.out), HCR.out.trans hC, fun k hk => (HK.out k hk).1⟩
        | some t =>
          obtain ⟨a, b, rfl, rfl, hn⟩ := hget_some hg
          obtain ⟨L, hL, hsl⟩ : ∃ L, H[a]? = some L ∧ L[b]? = some (some t) := by
            unfold nget at hn
            cases hL : H[a]? with
            | none => rw [hL] at hn; cases hn
            | some L => rw [hL] at hn; exact ⟨L, rfl, sget_some.1 hn⟩
          have hok : t.Ok := by
            obtain ⟨_, _, f, fr, st, _, h2⟩ := hHr.ptr_of hL
            exact h2.ok b t hsl
          have HOK := Lib.hid hok
          have HG := Lib.hid hg
          have HN := Lib.hid hn
          have I := Lib.hid (hget_ok hHr hL hsl)
          have hle : l.length + 1 ≤ usedH H := by
            have := places_le (H := H) (l := l ++ [(a, b)]) (List.nodup_append.2 ⟨HND.out, by simp, fun x hx y hy e => by
              subst e
              simp at hy
              subst hy
              exact inL_nat_false.1 HSE.out hx⟩) (fun q hq => by
              rcases List.mem_append.1 hq with h | h
              · exact HIN.out q h
              · simp at h; subst h; exact ⟨t, HN.out⟩)
            simpa using this
          have HLE := Lib.hid hle
          clear hg hHr hn hL hsl hok hle
          go_wp2_with (first | (at_lookup; refine wpList_seen rfl _ _ rfl mb l.length (inL l) a b false rfl rfl HM.out HP1.out HS1.out HSE.out ?_))
          refine I.out.mono ?_
          rintro e w6 ⟨A6, c6, rfl, hcl⟩
          have hC6 := hcl.2.1
          have hs6 := hC6.size
          have x0 := hC6.cell (p := ⟨bx, 0, none⟩) b0 (by simp)
          have x1 := hC6.cell (p := ⟨bx, 1, none⟩) b1 (by simp)
          have HC6 := Lib.hid hC6
          clear hcl b0 b1 hC6
          unfold Tup.val
          have hx6 : bx < w6.heap.size := World.block_lt_of_cell? _ _ x0
          have hl6 : ∀ k, (Value.slice A0 l.length c0).ownBlock = some k → k < w6.heap.size := fun k hk => Nat.lt_of_lt_of_le (HO.out.lt' k hk) hs6
          have HL6 := Lib.hid hl6
          have hm6 : mb < w6.heap.size := Nat.lt_of_lt_of_le HM.out.lt hs6
          have hmbx : mb ≠ bx := HM.out.ne HX.out
          clear hl6
          go_wp2_with (first | (at_mapUpdate; refine wpList_see rfl _ _ _ rfl mb l.length (inL l) a b rfl rfl rfl ((HM.out.chg HC6.out (by simp)).chg ((Chg.refl [] w6).alloc _) (by simp)) ?_ HP1.out HS1.out ?_))
          · have := HH.out.used_le; have := HLE.out; omega
          intro w8 hS8 hC8
          have hs8 := hC8.size
          rw [World.size_alloc] at hs8
          have y0 := hC8.cell (p := ⟨bx, 0, none⟩) (u := .int .i64 a) (by go_simp) (by simpa using hmbx.symm)
          have y1 := hC8.cell (p := ⟨bx, 1, none⟩) (u := .int .i64 b) (by go_simp) (by simpa using hmbx.symm)
          have z3 := hC8.cell (p := ⟨w6.heap.size, 3, none⟩) (u := .int .i64 t.np) (by go_simp) (by simp; omega)
          have z4 := hC8.cell (p := ⟨w6.heap.size, 4, none⟩) (u := .int .i64 t.ns) (by go_simp) (by simp; omega)
          have HS8 := Lib.hid hS8
          have HC8 := Lib.hid hC8
          clear hS8 hC8 x0 x1
          obtain ⟨wb, hwb⟩ : ∃ wb, wb = w8.alloc (.cells #[.int .i64 a, .int .i64 b] 53) := ⟨_, rfl⟩
          have hCb : Chg [mb] w6 wb := by rw [hwb]; exact (((Chg.refl [mb] w6).alloc _).trans HC8.out).alloc _
          have hOb : Own wb 53 2 (.slice A0 l.length c0) l.length (tids l) := (HO.out.chg HC6.out (by simp)).chg hCb (fun k hk => by
            intro hm
            simp at hm
            subst hm
            exact HM.out.off HO.out hk)
          have hsrc := Src1.two (w := w8) (e := 53) (u := .int .i64 a) (v := .int .i64 b) rfl rfl
          rw [← hwb] at hsrc
          have HOB := Lib.hid hOb
          have HSRC := Lib.hid hsrc
          have HCB := Lib.hid hCb
          have hsb : w6.heap.size + 1 < wb.heap.size := by rw [hwb, World.size_alloc]; omega
          have q0 : wb.cell? ⟨bx, 0, none⟩ = some (.int .i64 a) := by rw [hwb]; exact (((Chg.refl [] w8).alloc _).cell y0 (by simp))
          have q1 : wb.cell? ⟨bx, 1, none⟩ = some (.int .i64 b) := by rw [hwb]; exact (((Chg.refl [] w8).alloc _).cell y1 (by simp))
          have q3 : wb.cell? ⟨w6.heap.size, 3, none⟩ = some (.int .i64 t.np) := by rw [hwb]; exact (((Chg.refl [] w8).alloc _).cell z3 (by simp))
          have q4 : wb.cell? ⟨w6.heap.size, 4, none⟩ = some (.int .i64 t.ns) := by rw [hwb]; exact (((Chg.refl [] w8).alloc _).cell z4 (by simp))
          have hXb := HCB.out.heap (HC6.out.heap HX.out (by simp)) (by simpa using hmbx.symm)
          have hfb := frozen_of_row wb bx 0 _ _ hXb
          have hfb1 := frozen_of_row wb bx 1 _ _ hXb
          have hbxb : bx < wb.heap.size := by omega
          have hfact : ∀ w9, Chg (Value.slice A0 l.length c0).ownBlock.toList wb w9 → w9.cell? ⟨bx, 0, none⟩ = some (.int .i64 a) ∧ w9.cell? ⟨bx, 1, none⟩ = some (.int .i64 b) ∧ w9.cell? ⟨w6.heap.size, 3, none⟩ = some (.int .i64 t.np) ∧ w9.cell? ⟨w6.heap.size, 4, none⟩ = some (.int .i64 t.ns) ∧ w9.frozen? ⟨bx, 0, none⟩ = false ∧ w9.frozen? ⟨bx, 1, none⟩ = false ∧ bx < w9.heap.size ∧ w6.heap.size < w9.heap.size := by
            intro w9 hC9
            have o1 : bx ∉ (Value.slice A0 l.length c0).ownBlock.toList := by rw [Option.mem_toList]; exact fun e => (HK.out _ e).2 rfl
            have o2 : w6.heap.size ∉ (Value.slice A0 l.length c0).ownBlock.toList := by rw [Option.mem_toList]; exact fun e => Nat.lt_irrefl _ (HL6.out _ e)
            have := hC9.size
            exact ⟨hC9.cell q0 o1, hC9.cell q1 o1, hC9.cell q3 o2, hC9.cell q4 o2, hC9.free hbxb hfb o1, hC9.free hbxb hfb1 o1, by omega, by omega⟩
          have HFACT := Lib.hid hfact
          have HXB := Lib.hid hXb
          have HBB : Hid (bx < wb.heap.size) := Lib.hid hbxb
          clear hCb hOb hsrc z3 z4 q0 q1 q3 q4 hfb hfb1 hXb hfact hbxb
          subst hwb
          have C1 : Hid (l.length + 1 ≤ maxLen) := Lib.hid (by unfold maxLen; have := HH.out.used_le; have := HLE.out; omega)
          have C2 : Hid ((l.length + 1) * 16 ≤ 140737488355328) := Lib.hid (by have := HH.out.used_le; have := HLE.out; omega)
          go_wp2_with (at_builtin; refine wpList_app rfl (.tmp 24) (.tmp 26) 51 rfl 53 2 16 El51 (.slice A0 l.length c0) l.length (tids l) rfl HOB.out (.slice (some ⟨w8.heap.size, 0, none⟩) 1 1) 1 [.int .i64 a, .int .i64 b] rfl HSRC.out (l.length + 1) (tids l ++ [.int .i64 a, .int .i64 b]) rfl rfl C1.out C2.out ?_; intro A9 c9 w9 a9; have HA9 := Lib.hid a9; clear a9; obtain ⟨g0, g1, g3, g4, g5, g6, g7, g8⟩ := HFACT.out _ HA9.out.chg)
          go_roundw
          case measure => simp only [lenV]; have := HLE.out; omega
          case rel =>
            have hCf : Chg [bx] w9 ((w9.setCell ⟨bx, 0, none⟩ (.int .i64 t.np)).setCell ⟨bx, 1, none⟩ (.int .i64 t.ns)) := ((Chg.refl [bx] w9).setCell (.inl (by simp)) _).setCell (.inl (by simp)) _
            have ha := HA9.out
            have hks : ∀ k, (Value.slice A9 (l.length + 1) c9).ownBlock = some k → w.heap.size ≤ k ∧ k ≠ bx := by
              intro k hk
              rcases ha.at_ k hk with e | e
              · exact HK.out k e
              · have := HBB.out; have := HCR.out.size; have := HC6.out.size; have := HC8.out.size; simp at *; omega
            have hC9 : Chg (mb :: bx :: (Value.slice A0 l.length c0).ownBlock.toList) w6 ((w9.setCell ⟨bx, 0, none⟩ (.int .i64 t.np)).setCell ⟨bx, 1, none⟩ (.int .i64 t.ns)) := ((HCB.out.mono (by simp)).trans (ha.chg.mono (fun x hx => List.mem_cons_of_mem _ (List.mem_cons_of_mem _ hx)))).trans (hCf.mono (by simp))
            refine ⟨l ++ [(a, b)], t.np, t.ns, ?_, ?_, ?_, (wf_far HOK.out).1, (wf_far HOK.out).2, ?_, ?_, ?_, ?_, hks⟩
            · have := ha.own.chg hCf (fun k hk => by simpa using (hks k hk).2)
              rw [tids_app] at this
              simpa using this
            · have h1 := HS8.out.chg ((Chg.refl [] w8).alloc (.cells #[.int .i64 a, .int .i64 b] 53)) (by simp)
              have h2 := h1.chg ha.chg (by rw [Option.mem_toList]; exact HM.out.off HO.out)
              have h3 := h2.chg hCf (by simpa using hmbx)
              have e : inL (l ++ [(a, b)]) = fun x y => inL l x y || ((a : Int) == x && (b : Int) == y) := by funext x y; exact inL_snoc l a b x y
              rw [e, List.length_append]
              exact h3
            · have h1 := ha.chg.heap HXB.out (by rw [Option.mem_toList]; exact fun e => (HK.out _ e).2 rfl)
              have h2 := heap_setCell_same w9 bx 0 _ 53 (.int .i64 t.np) h1
              exact heap_setCell_same _ bx 1 _ 53 (.int .i64 t.ns) h2
            · exact List.nodup_append.2 ⟨HND.out, by simp, fun x hx y hy e => by
                subst e
                simp at hy
                subst hy
                exact inL_nat_false.1 HSE.out hx⟩
            · intro q hq
              rcases List.mem_append.1 hq with h | h
              · exact HIN.out q h
              · simp at h; subst h; exact ⟨t, HN.out⟩
            · intro r hr
              have := HGO.out _ (.step l a b t HSE.out HG.out r hr)
              simpa using this
            · refine (HCR.out.trans HC6.out).trans' hC9 ?_
              intro x hx
              right
              rcases List.mem_cons.1 hx with rfl | hx
              · exact HMB.out.1
              rcases List.mem_cons.1 hx with rfl | hx
              · exact HBX.out
              rw [Option.mem_toList] at hx
              exact (HK.out x hx).1
end Go.Proofs.Yteokjaocnemmlaa
