/-
  The walk of fold.Groups.
-/
import Derived.Test.YtkdhhafoohnlnaaGrp2
import Derived.Deep.CutBlock
namespace Go.Proofs.Ytkdhhafoohnlnaa
open Go.RowKit

def grpStep (K : List (List Vl)) (out : List (List Nat)) (i : Nat) : List (List Nat) :=
  match findG K (K.getD i []) out with
  | none => out ++ [[i]]
  | some g => out.set g (out.getD g [] ++ [i])
/-- The groups of the first n rows. -/
def grpN (K : List (List Vl)) : Nat → List (List Nat)
  | 0 => []
  | n + 1 => grpStep K (grpN K n) n
theorem grpN_le (K : List (List Vl)) (n : Nat) : (grpN K n).length ≤ n ∧ ∀ l, l ∈ grpN K n → l.length ≤ n ∧ ∀ i, i ∈ l → i < n := by
  induction n with
  | zero => simp [grpN]
  | succ n ih =>
    obtain ⟨h1, h2⟩ := ih
    unfold grpN grpStep
    split
    · refine ⟨by simp; omega, fun l hl => ?_⟩
      rcases List.mem_append.1 hl with h | h
      · obtain ⟨h3, h4⟩ := h2 l h
        exact ⟨by omega, fun i hi => by have := h4 i hi; omega⟩
      · simp at h; subst h; simp
    · rename_i g hg
      refine ⟨by simp; omega, fun l hl => ?_⟩
      rcases List.mem_or_eq_of_mem_set hl with h | h
      · obtain ⟨h3, h4⟩ := h2 l h
        exact ⟨by omega, fun i hi => by have := h4 i hi; omega⟩
      · subst h
        by_cases hgl : g < (grpN K n).length
        · rw [List.getD_eq_getElem?_getD, List.getElem?_eq_getElem hgl]
          obtain ⟨h3, h4⟩ := h2 _ (List.getElem_mem hgl)
          simp only [Option.getD_some, List.length_append, List.length_cons, List.length_nil, List.mem_append, List.mem_singleton]
          exact ⟨by omega, fun i hi => by rcases hi with h | h; · have := h4 i h; omega
                                          · omega⟩
        · rw [List.getD_eq_getElem?_getD, List.getElem?_eq_none (by omega)]
          simp
/-- What Groups answers. -/
def GrpOf (w : World) (out : List (List Nat)) (e : Ending) (w' : World) : Prop :=
  ∃ A c vs, e = .returned (.slice A out.length c) ∧ GAt w' (.slice A out.length c) out vs ∧ Chg [] w w'

set_option maxRecDepth 100000 in
set_option maxHeartbeats 8000000 in
theorem groups_any {w : World} {vK : Value} {K : List (List Vl)} (hK : KeysAt w vK K) (hKl : K.length ≤ 1000) (hlen : ∀ r, r ∈ K → r.length ≤ 1000) :
    Calls Try.prog 11 #[vK] w fun e w' => GrpOf w (grpN K K.length) e w' := by
  obtain ⟨AK, cK, hvK⟩ : ∃ A c, vK = .slice A K.length c := by obtain ⟨A, c, _, h, _⟩ := hK; exact ⟨A, c, h⟩
  subst hvK
  have hmf : ∀ (fn : Fn) (first cap : Array Value) (w : World), (Instr.makeFunc fn first cap).run Try.prog w = .ok (.func fn first cap) w := fun _ _ _ _ => rfl
  obtain ⟨n, hn⟩ : ∃ n, n = K.length := ⟨_, rfl⟩
  have HK := Lib.hid hK
  rw [← hn] at HK hKl ⊢
  have HN := Lib.hid hn
  have HLEN := Lib.hid hlen
  clear hK hn hlen
  go_enter Try.func11, Try.ntmps11
  go_wp2_with fail
  obtain ⟨bk, hbk⟩ : ∃ bk, bk = w.heap.size := ⟨_, rfl⟩
  generalize hwa : World.alloc _ _ = wa
  have HXA : Hid (wa.heap[bk]? = some (.cells #[.slice AK n cK] 22 (0, 0))) := Lib.hid (by rw [← hwa, hbk]; exact heap_alloc_new w _)
  have HCA : Hid (Chg [] w wa) := Lib.hid (by rw [← hwa]; exact (Chg.refl [] w).alloc _)
  have HBK : Hid (bk = w.heap.size) := Lib.hid hbk
  rw [← hbk]
  clear hwa hbk
  go_loopw [3, 9] (fun v i wr => ∃ (j : Nat) (vs : List Value), i = .int .i64 j ∧ j ≤ n ∧ GAt wr v (grpN K j) vs ∧ Chg [] w wr ∧ wr.heap[bk]? = some (.cells #[.slice AK n cK] 22 (0, 0)) ∧ (∀ k, v.ownBlock = some k → w.heap.size ≤ k) ∧ ∀ u k, u ∈ vs → u.ownBlock = some k → w.heap.size ≤ k) (fun _ i _ => n - (intOf i).toNat)
  case atStart => exact ⟨0, [], rfl, by omega, GAt.nil wa, HCA.out, HXA.out, by simp [Value.ownBlock], by simp⟩
  case round =>
    obtain ⟨j, vs, rfl, hj, hG, hCr, hX, hv, hvs⟩ := hrel
    obtain ⟨A0, c0, rfl⟩ := hG.row.form'
    obtain ⟨hle1, hle2⟩ := grpN_le K j
    have HG := Lib.hid hG
    have HCR := Lib.hid hCr
    have HX := Lib.hid hX
    have HV := Lib.hid hv
    have HVS := Lib.hid hvs
    have HL2 := Lib.hid hle2
    clear hG hCr hX hv hvs hle2 HXA HCA
    by_cases hlt : j < n
    · obtain ⟨r, hr⟩ : ∃ r, K[j]? = some r := ⟨_, List.getElem?_eq_getElem (by rw [← HN.out]; exact hlt)⟩
      obtain ⟨b, off, c', u, he, hu, hru⟩ := HK.out.cell hr
      injection he with he1 he2 he3
      subst he1 he3
      obtain ⟨Au, cu, hue⟩ : ∃ A c, u = .slice A r.length c := by obtain ⟨A, c, h, _⟩ := hru; exact ⟨A, c, h⟩
      obtain ⟨lr, hlr⟩ : ∃ lr, lr = r.length := ⟨_, rfl⟩
      rw [← hlr] at hue
      subst hue
      have xu := HCR.out.cell hu (by simp)
      have HRU := Lib.hid (hru.chg HCR.out)
      have hji : (j : Int) < (n : Int) := by omega
      have hxk : wr.cell? ⟨bk, 0, none⟩ = some (.slice (some ⟨b, off, none⟩) n cK) := by rw [cell_of_row _ _ _ _ _ _ HX.out]; rfl
      have hKr : K.getD j [] = r := by rw [List.getD_eq_getElem?_getD, hr]; rfl
      have HKR := Lib.hid hKr
      have hI := fun (w0 : World) (hC : Chg [] wr w0) (bi : Nat) (hbi : w0.cell? ⟨bi, 0, none⟩ = some (.slice Au lr cu)) => idx23 (K := K) (hC.cell hxk (by simp)) hbi (HK.out.chg (HCR.out.trans hC)) (HRU.out.chg hC) (HG.out.chg hC) (fun l hl i hi => by have := (HL2.out l hl).2 i hi; have := HN.out; omega) HLEN.out (by omega)
      have HI := Lib.hid hI
      obtain ⟨m, hm⟩ : ∃ m, m = (grpN K j).length := ⟨_, rfl⟩
      rw [← hm] at hle1 HI ⊢
      have HM := Lib.hid hm
      clear hr he2 hu hru hKr hI hm hlr
      go_wp2_with fail
      have hbi0 : (wr.alloc (.cells #[.slice Au lr cu] 34)).cell? ⟨wr.heap.size, 0, none⟩ = some (.slice Au lr cu) := by rw [cell_of_row _ _ _ _ _ _ (heap_alloc_new wr (.cells #[.slice Au lr cu] 34))]; rfl
      refine (HI.out _ ((Chg.refl [] wr).alloc _) wr.heap.size hbi0).mono ?_
      rintro e w5 ⟨rfl, hC5⟩
      have hC5' : Chg [] wr w5 := ((Chg.refl [] wr).alloc _).trans hC5
      have HC5 := Lib.hid hC5'
      clear hC5 hC5' hbi0
      cases hfd : findG K r (grpN K j) with
      | none =>
        have hstep : grpN K (j + 1) = grpN K j ++ [[j]] := by
          show grpStep K (grpN K j) j = _
          unfold grpStep
          rw [HKR.out, hfd]
        have HSTEP := Lib.hid hstep
        clear hfd hstep
        rw [show idxV none = -1 from rfl]
        have hs5 := HC5.out.size
        have hG5 := HG.out.chg HC5.out
        obtain ⟨w6, hw6⟩ : ∃ w6, w6 = (w5.alloc (.cells #[.int .i64 j] 3)).alloc (.cells #[.slice (some ⟨w5.heap.size, 0, none⟩) 1 1] 28) := ⟨_, rfl⟩
        have hC6 : Chg [] w5 w6 := by rw [hw6]; exact ((Chg.refl [] w5).alloc _).alloc _
        have hsrc := Src1.one (w := w5.alloc (.cells #[.int .i64 j] 3)) (e := 28) (u := .slice (some ⟨w5.heap.size, 0, none⟩) 1 1) rfl
        rw [← hw6, show (w5.alloc (.cells #[.int .i64 j] 3)).heap.size = w5.heap.size + 1 by simp] at hsrc
        have hrow6 := (hG5.chg hC6).row
        rw [← HM.out] at hrow6
        have hnat : NatsAt w6 (.slice (some ⟨w5.heap.size, 0, none⟩) 1 1) [j] := ⟨rfl, .inr ⟨w5.heap.size, 1, #[.int .i64 j], rfl, Nat.zero_le _, by rw [hw6]; exact (Below.heap_alloc _ _ _ (by simp)).trans (heap_alloc_new w5 _), Nat.le_refl _, by decide, rfl, rfl⟩⟩
        have HROW6 := Lib.hid hrow6
        have HSRC := Lib.hid hsrc
        have HNAT := Lib.hid hnat
        have HG5 := Lib.hid hG5
        have HC6 := Lib.hid hC6
        have C1 : Hid (m + 1 ≤ maxLen) := Lib.hid (by unfold maxLen; omega)
        have C2 : Hid ((m + 1) * 24 ≤ 140737488355328) := Lib.hid (by omega)
        clear hG5 hC6 hsrc hrow6 hnat
        subst hw6
        go_wp2_with (at_builtin; refine wpList_app rfl (.tmp 19) (.tmp 22) 25 rfl 28 1 24 El25 (.slice A0 m c0) m vs rfl HROW6.out (.slice (some ⟨w5.heap.size + 1, 0, none⟩) 1 1) 1 [.slice (some ⟨w5.heap.size, 0, none⟩) 1 1] rfl HSRC.out (m + 1) (vs ++ [.slice (some ⟨w5.heap.size, 0, none⟩) 1 1]) rfl rfl C1.out C2.out ?_; intro A7 c7 w7 a7; have HA7 := Lib.hid a7; clear a7)
        go_roundw
        case measure => simp [intOf]; omega
        case rel =>
          have ha := HA7.out
          have hle : (grpN K (j + 1)).length = m + 1 := by rw [HSTEP.out, List.length_append, ← HM.out]; rfl
          have hrow0 := HG.out.row
          rw [← HM.out] at hrow0
          have hC7 : Chg (Value.slice A0 m c0).ownBlock.toList wr w7 := ((HC5.out.trans HC6.out).mono (by simp)).trans ha.chg
          refine ⟨j + 1, vs ++ [.slice (some ⟨w5.heap.size, 0, none⟩) 1 1], by go_num, by omega, ?_, ?_, ?_, ?_, ?_⟩
          · rw [HSTEP.out]
            refine HG5.out.push HC6.out HNAT.out (by simp) (by intro b hb; simp [Value.ownBlock] at hb; omega) ?_
            rw [← HM.out]
            exact ha
          · refine HCR.out.trans' hC7 (fun x hx => .inr ?_)
            rw [Option.mem_toList] at hx
            exact HV.out x (by rw [← HM.out]; exact hx)
          · refine hC7.heap HX.out ?_
            rw [Option.mem_toList]
            exact hrow0.ne HX.out (by decide)
          · intro k hk
            rcases ha.at_ k hk with e | e
            · exact HV.out k (by rw [← HM.out]; exact e)
            · have := HCR.out.size; have := HC6.out.size; omega
          · intro x k hx hk
            rcases List.mem_append.1 hx with h | h
            · exact HVS.out x k h hk
            · simp at h
              subst h
              simp [Value.ownBlock] at hk
              have := HCR.out.size
              omega
      | some g =>
        rw [show idxV (some g) = (g : Int) from rfl]
        have hgl : g < (grpN K j).length := by
          unfold findG at hfd
          rw [List.findIdx?_eq_some_iff_getElem] at hfd
          exact hfd.1
        obtain ⟨l, hl⟩ : ∃ l, (grpN K j)[g]? = some l := ⟨_, List.getElem?_eq_getElem hgl⟩
        obtain ⟨u, hu⟩ : ∃ u, vs[g]? = some u := ⟨_, List.getElem?_eq_getElem (by rw [HG.out.len]; exact hgl)⟩
        have hstep : grpN K (j + 1) = (grpN K j).set g (l ++ [j]) := by
          show grpStep K (grpN K j) j = _
          unfold grpStep
          rw [HKR.out, hfd]
          show (grpN K j).set g ((grpN K j).getD g [] ++ [j]) = _
          rw [List.getD_eq_getElem?_getD, hl]
          rfl
        have HSTEP := Lib.hid hstep
        rw [← HM.out] at hgl
        have hG5 := HG.out.chg HC5.out
        obtain ⟨gb, c', he, hcell⟩ := hG5.cell hu
        rw [← HM.out] at he
        injection he with he1 he2 he3
        subst he1 he3
        obtain ⟨Ai, ci, hie⟩ := (hG5.inn g l u hl hu).form'
        obtain ⟨ll, hll⟩ : ∃ ll, ll = l.length := ⟨_, rfl⟩
        rw [← hll] at hie
        subst hie
        obtain ⟨w6, hw6⟩ : ∃ w6, w6 = w5.alloc (.cells #[.int .i64 j] 3) := ⟨_, rfl⟩
        have hC6 : Chg [] w5 w6 := by rw [hw6]; exact (Chg.refl [] w5).alloc _
        have hsrc := Src1.one (w := w5) (e := 3) (u := .int .i64 j) rfl
        rw [← hw6] at hsrc
        have hG6 := hG5.chg hC6
        have hinn6 := hG6.inn g l _ hl hu
        unfold NatsAt at hinn6
        rw [← hll] at hinn6
        have hll1 : ll ≤ j := by rw [hll]; exact (HL2.out l (List.mem_of_getElem? hl)).1
        have hrow6 := hG6.row
        rw [← HM.out] at hrow6
        have hbl : gb < w5.heap.size := hG5.row.lt' gb (by rw [← HM.out]; rfl)
        have hfact : ∀ w7, App w6 w7 3 1 (.slice Ai ll ci) (.slice Ai ll ci) ll [] ∨ Chg (Value.slice Ai ll ci).ownBlock.toList w6 w7 → True := fun _ _ => trivial
        have hfac : ∀ w7, Chg (Value.slice Ai ll ci).ownBlock.toList w6 w7 → w7.cell? ⟨gb, g, none⟩ = some (.slice Ai ll ci) ∧ w7.frozen? ⟨gb, g, none⟩ = false := by
          intro w7 h7
          have o1 : gb ∉ (Value.slice Ai ll ci).ownBlock.toList := by
            rw [Option.mem_toList]
            intro e
            exact hinn6.apart hrow6 (by decide) e rfl
          obtain ⟨cs, hcs⟩ := hrow6.block (k := gb) rfl
          exact ⟨h7.cell (hC6.cell hcell (by simp)) o1, h7.free (lt_of_heap hcs) (frozen_of_row w6 gb g _ _ hcs) o1⟩
        have HFAC := Lib.hid hfac
        have HG6 := Lib.hid hG6
        have HI6 := Lib.hid hinn6
        have HSRC := Lib.hid hsrc
        have HC6 := Lib.hid hC6
        have HL := Lib.hid hl
        have HU := Lib.hid hu
        have HLL := Lib.hid hll
        have HROW6 := Lib.hid hrow6
        have hgi : (g : Int) < (m : Int) := by omega
        have C1 : Hid (ll + 1 ≤ maxLen) := Lib.hid (by unfold maxLen; omega)
        have C2 : Hid ((ll + 1) * 8 ≤ 140737488355328) := Lib.hid (by omega)
        clear hG5 hC6 hsrc hG6 hinn6 hl hu hll hfac hfact hrow6 hstep hfd he2
        subst hw6
        go_wp2_with (at_builtin; refine wpList_app rfl (.tmp 29) (.tmp 31) 28 rfl 3 1 8 El28 (.slice Ai ll ci) ll (nats l) rfl HI6.out (.slice (some ⟨w5.heap.size, 0, none⟩) 1 1) 1 [.int .i64 j] rfl HSRC.out (ll + 1) (nats l ++ [.int .i64 j]) rfl rfl C1.out C2.out ?_; intro A7 c7 w7 a7; have HA7 := Lib.hid a7; clear a7; obtain ⟨f1, f2⟩ := HFAC.out _ HA7.out.chg)
        go_roundw
        case measure => simp [intOf]; omega
        case rel =>
          have ha := HA7.out
          have hCs : Chg [gb] w7 (w7.setCell ⟨gb, g, none⟩ (.slice A7 (ll + 1) c7)) := (Chg.refl [gb] w7).setCell (.inl (by simp)) _
          have hC7 : Chg (gb :: (Value.slice Ai ll ci).ownBlock.toList) wr (w7.setCell ⟨gb, g, none⟩ (.slice A7 (ll + 1) c7)) := ((HC5.out.trans HC6.out).mono (by simp)).trans ((ha.chg.mono (fun x hx => List.mem_cons_of_mem _ hx)).trans (hCs.mono (by simp)))
          have hui : (Value.slice Ai ll ci) ∈ vs := List.mem_of_getElem? HU.out
          refine ⟨j + 1, vs.set g (.slice A7 (ll + 1) c7), by go_num, by omega, ?_, ?_, ?_, ?_, ?_⟩
          · rw [HSTEP.out]
            have hh := HG6.out
            rw [← HM.out] at hh
            have := GAt.into (by rw [← HM.out]; exact hh) HL.out HU.out (by rw [← HLL.out]; exact ha)
            rw [← HM.out] at this
            exact this
          · refine HCR.out.trans' hC7 (fun x hx => .inr ?_)
            rcases List.mem_cons.1 hx with rfl | hx
            · exact HV.out x (by rw [← HM.out]; rfl)
            · rw [Option.mem_toList] at hx
              exact HVS.out _ x hui hx
          · refine hC7.heap HX.out ?_
            intro hm
            rcases List.mem_cons.1 hm with e | e
            · subst e
              have h6 := (HC5.out.trans HC6.out).heap HX.out (by simp)
              exact HROW6.out.ne h6 (by decide) rfl
            · rw [Option.mem_toList] at e
              have h6 := (HC5.out.trans HC6.out).heap HX.out (by simp)
              exact HI6.out.ne h6 (by decide) e
          · intro k hk
            exact HV.out k (by rw [← HM.out]; exact hk)
          · intro x k hx hk
            rcases List.mem_or_eq_of_mem_set hx with h | h
            · exact HVS.out x k h hk
            · subst h
              rcases ha.at_ k hk with e | e
              · exact HVS.out _ k hui e
              · have := HCR.out.size; have := HC5.out.size; have := HC6.out.size; omega
    · have hjn : j = n := by omega
      subst hjn
      have HGG := HG.out
      go_wp2_with fail
      go_ret
      exact ⟨A0, c0, vs, rfl, HG.out, HCR.out⟩
end Go.Proofs.Ytkdhhafoohnlnaa
