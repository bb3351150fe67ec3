/-
  The walk of few.
-/
import Derived.Test.YtkdhhafoohnlnaaFew1
namespace Go.Proofs.Ytkdhhafoohnlnaa
open Go.RowKit

theorem Src1.vl (w : World) (x : Vl) : Src1 (w.alloc (.cells #[.int .u8 x.k, .int .i64 x.i, .string x.s, .bool x.b] 39)) 4 (.slice (some ⟨w.heap.size, 0, none⟩) 1 1) 1 (cellsV x) := by
  refine ⟨rfl, ?_, .inr ⟨_, _, rfl, fun j u hu => ?_⟩⟩
  · intro u hu
    unfold cellsV at hu
    simp only [List.mem_cons, List.not_mem_nil, or_false] at hu
    rcases hu with rfl | rfl | rfl | rfl <;> rfl
  · rw [Go.WideShapes.add_plain, cell_of_row _ _ _ _ _ _ (heap_alloc_new w _)]
    have hj := getElem?_lt hu
    have hj4 : j < 4 := hj
    rw [show 0 + j = j by omega]
    match j, hj4, hu with
    | 0, _, hu => exact hu
    | 1, _, hu => exact hu
    | 2, _, hu => exact hu
    | 3, _, hu => exact hu
/-- The box of v, turned or not, and the value handed to append. -/
theorem few_turned {wo wr w2 : World} {A1 : Option Addr} {q c1 : Nat} {cs : List Value} {Z : Obj} (hwr : Chg [] wo wr) (hO : Own wr 39 4 (.slice A1 q c1) q cs) (h2 : Chg [] (wr.alloc Z) w2) (x : Vl) :
    Own (((((w2.setCell ⟨wr.heap.size, 0, none⟩ (.int .u8 x.k)).setCell ⟨wr.heap.size, 1, none⟩ (.int .i64 x.i)).setCell ⟨wr.heap.size, 2, none⟩ (.string x.s)).setCell ⟨wr.heap.size, 3, none⟩ (.bool x.b)).alloc (.cells #[.int .u8 x.k, .int .i64 x.i, .string x.s, .bool x.b] 39)) 39 4 (.slice A1 q c1) q cs ∧
    Src1 (((((w2.setCell ⟨wr.heap.size, 0, none⟩ (.int .u8 x.k)).setCell ⟨wr.heap.size, 1, none⟩ (.int .i64 x.i)).setCell ⟨wr.heap.size, 2, none⟩ (.string x.s)).setCell ⟨wr.heap.size, 3, none⟩ (.bool x.b)).alloc (.cells #[.int .u8 x.k, .int .i64 x.i, .string x.s, .bool x.b] 39)) 4 (.slice (some ⟨w2.heap.size, 0, none⟩) 1 1) 1 (cellsV x) ∧
    Chg [] wo (((((w2.setCell ⟨wr.heap.size, 0, none⟩ (.int .u8 x.k)).setCell ⟨wr.heap.size, 1, none⟩ (.int .i64 x.i)).setCell ⟨wr.heap.size, 2, none⟩ (.string x.s)).setCell ⟨wr.heap.size, 3, none⟩ (.bool x.b)).alloc (.cells #[.int .u8 x.k, .int .i64 x.i, .string x.s, .bool x.b] 39)) := by
  have h0 : Chg [] wr w2 := ((Chg.refl [] wr).alloc _).trans h2
  have hb : wr.heap.size ≤ wr.heap.size := Nat.le_refl _
  have hc : Chg [] wr ((((w2.setCell ⟨wr.heap.size, 0, none⟩ (.int .u8 x.k)).setCell ⟨wr.heap.size, 1, none⟩ (.int .i64 x.i)).setCell ⟨wr.heap.size, 2, none⟩ (.string x.s)).setCell ⟨wr.heap.size, 3, none⟩ (.bool x.b)) := (((h0.setCell (.inr hb) _).setCell (.inr hb) _).setCell (.inr hb) _).setCell (.inr hb) _
  refine ⟨hO.chg (hc.alloc _) (by simp), ?_, hwr.trans (hc.alloc _)⟩
  have := Src1.vl ((((w2.setCell ⟨wr.heap.size, 0, none⟩ (.int .u8 x.k)).setCell ⟨wr.heap.size, 1, none⟩ (.int .i64 x.i)).setCell ⟨wr.heap.size, 2, none⟩ (.string x.s)).setCell ⟨wr.heap.size, 3, none⟩ (.bool x.b)) x
  simpa using this
theorem few_plain {wo wr w2 : World} {A1 : Option Addr} {q c1 : Nat} {cs : List Value} {Z : Obj} (hwr : Chg [] wo wr) (hO : Own wr 39 4 (.slice A1 q c1) q cs) (h2 : Chg [] (wr.alloc Z) w2) :
    Own (w2.alloc (.cells #[.int .u8 0, .int .i64 0, .string ⟨#[]⟩, .bool false] 39)) 39 4 (.slice A1 q c1) q cs ∧ Src1 (w2.alloc (.cells #[.int .u8 0, .int .i64 0, .string ⟨#[]⟩, .bool false] 39)) 4 (.slice (some ⟨w2.heap.size, 0, none⟩) 1 1) 1 (cellsV Vl.zero) ∧ Chg [] wo (w2.alloc (.cells #[.int .u8 0, .int .i64 0, .string ⟨#[]⟩, .bool false] 39)) := by
  have h0 : Chg [] wr w2 := ((Chg.refl [] wr).alloc _).trans h2
  exact ⟨hO.chg (h0.alloc _) (by simp), Src1.vl w2 Vl.zero, hwr.trans (h0.alloc _)⟩

theorem Own.cap_le {w : World} {e size n c : Nat} {A : Option Addr} {xs : List Value} (h : Own w e size (.slice A n c) n xs) : n ≤ c := by
  rcases h.2 with ⟨he, h0⟩ | ⟨g, cap, cur, he, _, _, h1, _⟩
  · omega
  · injection he with _ _ he
    omega

set_option maxRecDepth 100000 in
set_option maxHeartbeats 8000000 in
theorem few10c {w : World} {vL : Value} {L : List (List Vl)} {n : Nat} (hL : KeysAt w vL L) (hn4 : n ≤ 4) :
    Calls Try.prog 10 #[vL, .int .i64 n] w fun e w' => ∃ A c, e = .returned (.slice A (fewK n L).length c) ∧ KeysAt w' (.slice A (fewK n L).length c) (fewK n L) ∧ Chg [] w w' ∧ (fewK n L).length ≤ c := by
  obtain ⟨AL, cL, hvL⟩ : ∃ A c, vL = .slice A L.length c := by obtain ⟨A, c, _, h, _⟩ := hL; exact ⟨A, c, h⟩
  subst hvL
  obtain ⟨m, hm⟩ : ∃ m, m = L.length := ⟨_, rfl⟩
  have HL := Lib.hid hL
  rw [← hm] at HL ⊢
  have HM := Lib.hid hm
  clear hL hm
  go_enter Try.func10, Try.ntmps10
  go_wp2_with fail
  go_loopw [5, 13] (fun v i wr => ∃ (j : Nat) (vs : List Value), i = .int .i64 j ∧ j ≤ m ∧ j ≤ 40 ∧ RAt wr v ((L.take j).map (fewRow n)) vs ∧ Chg [] w wr ∧ (∀ k, v.ownBlock = some k → w.heap.size ≤ k)) (fun _ i _ => m - (intOf i).toNat)
  case atStart => exact ⟨0, [], rfl, by omega, by omega, RAt.nil w, Chg.refl [] w, by simp [Value.ownBlock]⟩
  case round =>
    obtain ⟨j, vs, rfl, hj, hj40, hR, hCr, hv⟩ := hrel
    obtain ⟨A0, c0, rfl⟩ := hR.row.form'
    have HR := Lib.hid hR
    have HCR := Lib.hid hCr
    have HV := Lib.hid hv
    have hol : ((L.take j).map (fewRow n)).length = j := by rw [List.length_map, List.length_take, ← HM.out]; omega
    have HOL := Lib.hid hol
    clear hR hCr hv
    rw [hol]
    clear hol
    by_cases hlt : j < m
    · obtain ⟨r, hr⟩ : ∃ r, L[j]? = some r := ⟨_, List.getElem?_eq_getElem (by rw [← HM.out]; exact hlt)⟩
      obtain ⟨b, off, c', u, he, hu, hru⟩ := HL.out.cell hr
      injection he with he1 he2 he3
      subst he1 he3
      obtain ⟨Au, cu, hue⟩ : ∃ A c, u = .slice A r.length c := by obtain ⟨A, c, h, _⟩ := hru; exact ⟨A, c, h⟩
      obtain ⟨lr, hlr⟩ : ∃ lr, lr = r.length := ⟨_, rfl⟩
      rw [← hlr] at hue
      subst hue
      have xu := HCR.out.cell hu (by simp)
      have HRU := Lib.hid (hru.chg HCR.out)
      have HLR := Lib.hid hlr
      have HRJ := Lib.hid hr
      have hji : (j : Int) < (m : Int) := by omega
      clear hu hru he2 hlr hr
      by_cases h40 : j < 40
      · have h40i : (j : Int) < 40 := by omega
        obtain ⟨wo, hwo⟩ : ∃ wo : World, wo = wr := ⟨_, rfl⟩
        subst hwo
        go_wp2_with fail
        go_loopw [8, 21] (fun v i wx => ∃ q : Nat, i = .int .i64 q ∧ q ≤ n ∧ Own wx 39 4 v q (cellsR (fewRow q r)) ∧ Chg [] wo wx ∧ (∀ k, v.ownBlock = some k → wo.heap.size ≤ k)) (fun _ i _ => n - (intOf i).toNat)
        case atStart => exact ⟨0, rfl, by omega, ⟨rfl, .inl ⟨rfl, rfl⟩⟩, Chg.refl [] wo, by simp [Value.ownBlock]⟩
        case round =>
          obtain ⟨q, rfl, hq, hO, hCx, hB⟩ := hrel
          obtain ⟨A1, c1, rfl⟩ := hO.form'
          have HO := Lib.hid hO
          have HCX := Lib.hid hCx
          have HB := Lib.hid hB
          clear hO hCx hB
          by_cases hqn : q < n
          · have hqi : (q : Int) < (n : Int) := by omega
            by_cases hql : q < lr
            · have hqli : (q : Int) < (lr : Int) := by omega
              obtain ⟨x, hx⟩ : ∃ x, r[q]? = some x := ⟨_, List.getElem?_eq_getElem (by rw [← HLR.out]; exact hql)⟩
              obtain ⟨Ar, cr, her, hcr⟩ := HRU.out
              obtain ⟨b2, off2, ha2, x0, x1, x2, x3⟩ := hcr q x hx
              injection her with he1 he2 he3
              subst he1 ha2 he3
              obtain ⟨xk, xi, xs, xb⟩ := x
              have y0 := HCX.out.cell x0 (by simp)
              have y1 := HCX.out.cell x1 (by simp)
              have y2 := HCX.out.cell x2 (by simp)
              have y3 := HCX.out.cell x3 (by simp)
              have I := Lib.hid (fun w : World => right22 ⟨xk, xi, xs, xb⟩ w)
              unfold Vl.val at I
              clear he2 hcr x0 x1 x2 x3
              obtain ⟨wz, hwz⟩ : ∃ wz, wz = wr.alloc (.cells #[.int .u8 0, .int .i64 0, .string ⟨#[]⟩, .bool false] 39) := ⟨_, rfl⟩
              have hCz : Chg [] wr wz := by rw [hwz]; exact (Chg.refl [] wr).alloc _
              have hz : wz.heap[wr.heap.size]? = some (.cells #[.int .u8 0, .int .i64 0, .string ⟨#[]⟩, .bool false] 39 (0, 0)) := by rw [hwz]; exact heap_alloc_new wr _
              have z0 := hCz.cell y0 (by simp)
              have z1 := hCz.cell y1 (by simp)
              have z2 := hCz.cell y2 (by simp)
              have z3 := hCz.cell y3 (by simp)
              have HCZ := Lib.hid hCz
              have HZ := Lib.hid hz
              clear y0 y1 y2 y3 hCz hz
              subst hwz
              obtain ⟨t, ht⟩ : ∃ t, t = rightB ⟨xk, xi, xs, xb⟩ := ⟨_, rfl⟩
              rw [← ht] at I
              have HT := Lib.hid ht
              clear ht
              have C1 : Hid (q + 1 ≤ maxLen) := Lib.hid (by unfold maxLen; omega)
              have C2 : Hid ((q + 1) * 40 ≤ 140737488355328) := Lib.hid (by omega)
              have HX := Lib.hid hx
              clear hx
              cases t with
              | true =>
                go_wp2_with (first
                  | (go_at_call 22; (with_reducible refine (I.out _).mono ?_); rintro e w2 ⟨rfl, h2⟩; have v0 := h2.cell z0 (by simp); have v1 := h2.cell z1 (by simp); have v2 := h2.cell z2 (by simp); have v3 := h2.cell z3 (by simp); have h2z := h2.heap HZ.out (by simp); have e0 : w2.cell? ⟨wr.heap.size, 0, none⟩ = some (.int .u8 0) := (by rw [cell_of_row _ _ _ _ _ _ h2z]; rfl); have e1 : w2.cell? ⟨wr.heap.size, 1, none⟩ = some (.int .i64 0) := (by rw [cell_of_row _ _ _ _ _ _ h2z]; rfl); have e2 : w2.cell? ⟨wr.heap.size, 2, none⟩ = some (.string ⟨#[]⟩) := (by rw [cell_of_row _ _ _ _ _ _ h2z]; rfl); have e3 : w2.cell? ⟨wr.heap.size, 3, none⟩ = some (.bool false) := (by rw [cell_of_row _ _ _ _ _ _ h2z]; rfl); have f0 := frozen_of_row w2 wr.heap.size 0 _ _ h2z; have f1 := frozen_of_row w2 wr.heap.size 1 _ _ h2z; have f2 := frozen_of_row w2 wr.heap.size 2 _ _ h2z; have f3 := frozen_of_row w2 wr.heap.size 3 _ _ h2z; have HALL := Lib.hid (few_turned HCX.out HO.out h2 ⟨xk, xi, xs, xb⟩); have HOW := Lib.hid HALL.out.1; have HSR := Lib.hid HALL.out.2.1; have HC3 := Lib.hid HALL.out.2.2; clear HALL h2 h2z)
                  | (at_builtin; refine wpList_app rfl (.tmp 40) (.tmp 42) 34 rfl 39 4 40 El34 (.slice A1 q c1) q (cellsR (fewRow q r)) rfl HOW.out (.slice (some ⟨w2.heap.size, 0, none⟩) 1 1) 1 (cellsV ⟨xk, xi, xs, xb⟩) rfl HSR.out (q + 1) (cellsR (fewRow q r) ++ cellsV ⟨xk, xi, xs, xb⟩) rfl rfl C1.out C2.out ?_; intro A7 c7 w7 a7; have HA7 := Lib.hid a7; clear a7))
                go_roundw
                case measure => simp [intOf]; omega
                case rel =>
                  have ha := HA7.out
                  refine ⟨q + 1, by go_num, by omega, ?_, ?_, ?_⟩
                  · rw [fewRow_succ, show fewV r q = ⟨xk, xi, xs, xb⟩ by unfold fewV; rw [HX.out]; show (if _ then _ else _) = _; rw [← HT.out]; rfl, ← cellsR_app]
                    exact ha.own
                  · refine HC3.out.trans' ha.chg (fun x hx => .inr ?_)
                    rw [Option.mem_toList] at hx
                    exact HB.out x hx
                  · intro x hx
                    rcases ha.at_ x hx with e | e
                    · exact HB.out x e
                    · have := HC3.out.size; omega
              | false =>
                go_wp2_with (first
                  | (go_at_call 22; (with_reducible refine (I.out _).mono ?_); rintro e w2 ⟨rfl, h2⟩; have h2z := h2.heap HZ.out (by simp); have e0 : w2.cell? ⟨wr.heap.size, 0, none⟩ = some (.int .u8 0) := (by rw [cell_of_row _ _ _ _ _ _ h2z]; rfl); have e1 : w2.cell? ⟨wr.heap.size, 1, none⟩ = some (.int .i64 0) := (by rw [cell_of_row _ _ _ _ _ _ h2z]; rfl); have e2 : w2.cell? ⟨wr.heap.size, 2, none⟩ = some (.string ⟨#[]⟩) := (by rw [cell_of_row _ _ _ _ _ _ h2z]; rfl); have e3 : w2.cell? ⟨wr.heap.size, 3, none⟩ = some (.bool false) := (by rw [cell_of_row _ _ _ _ _ _ h2z]; rfl); have HALL := Lib.hid (few_plain HCX.out HO.out h2); have HOW := Lib.hid HALL.out.1; have HSR := Lib.hid HALL.out.2.1; have HC3 := Lib.hid HALL.out.2.2; clear HALL h2 h2z)
                  | (at_builtin; refine wpList_app rfl (.tmp 40) (.tmp 42) 34 rfl 39 4 40 El34 (.slice A1 q c1) q (cellsR (fewRow q r)) rfl HOW.out (.slice (some ⟨w2.heap.size, 0, none⟩) 1 1) 1 (cellsV Vl.zero) rfl HSR.out (q + 1) (cellsR (fewRow q r) ++ cellsV Vl.zero) rfl rfl C1.out C2.out ?_; intro A7 c7 w7 a7; have HA7 := Lib.hid a7; clear a7))
                go_roundw
                case measure => simp [intOf]; omega
                case rel =>
                  have ha := HA7.out
                  refine ⟨q + 1, by go_num, by omega, ?_, ?_, ?_⟩
                  · rw [fewRow_succ, show fewV r q = Vl.zero by unfold fewV; rw [HX.out]; show (if _ then _ else _) = _; rw [← HT.out]; rfl, ← cellsR_app]
                    exact ha.own
                  · refine HC3.out.trans' ha.chg (fun x hx => .inr ?_)
                    rw [Option.mem_toList] at hx
                    exact HB.out x hx
                  · intro x hx
                    rcases ha.at_ x hx with e | e
                    · exact HB.out x e
                    · have := HC3.out.size; omega
            · have hqli : ¬ (q : Int) < (lr : Int) := by omega
              have hz : (wr.alloc (.cells #[.int .u8 0, .int .i64 0, .string ⟨#[]⟩, .bool false] 39)).heap[wr.heap.size]? = some (.cells #[.int .u8 0, .int .i64 0, .string ⟨#[]⟩, .bool false] 39 (0, 0)) := heap_alloc_new wr _
              have e0 : (wr.alloc (.cells #[.int .u8 0, .int .i64 0, .string ⟨#[]⟩, .bool false] 39)).cell? ⟨wr.heap.size, 0, none⟩ = some (.int .u8 0) := by rw [cell_of_row _ _ _ _ _ _ hz]; rfl
              have e1 : (wr.alloc (.cells #[.int .u8 0, .int .i64 0, .string ⟨#[]⟩, .bool false] 39)).cell? ⟨wr.heap.size, 1, none⟩ = some (.int .i64 0) := by rw [cell_of_row _ _ _ _ _ _ hz]; rfl
              have e2 : (wr.alloc (.cells #[.int .u8 0, .int .i64 0, .string ⟨#[]⟩, .bool false] 39)).cell? ⟨wr.heap.size, 2, none⟩ = some (.string ⟨#[]⟩) := by rw [cell_of_row _ _ _ _ _ _ hz]; rfl
              have e3 : (wr.alloc (.cells #[.int .u8 0, .int .i64 0, .string ⟨#[]⟩, .bool false] 39)).cell? ⟨wr.heap.size, 3, none⟩ = some (.bool false) := by rw [cell_of_row _ _ _ _ _ _ hz]; rfl
              have hall := few_plain HCX.out HO.out (Chg.refl [] (wr.alloc (.cells #[.int .u8 0, .int .i64 0, .string ⟨#[]⟩, .bool false] 39)))
              rw [show (wr.alloc (.cells #[.int .u8 0, .int .i64 0, .string ⟨#[]⟩, .bool false] 39)).heap.size = wr.heap.size + 1 by simp] at hall
              have HOW := Lib.hid hall.1
              have HSR := Lib.hid hall.2.1
              have HC3 := Lib.hid hall.2.2
              have C1 : Hid (q + 1 ≤ maxLen) := Lib.hid (by unfold maxLen; omega)
              have C2 : Hid ((q + 1) * 40 ≤ 140737488355328) := Lib.hid (by omega)
              clear hall hz
              go_wp2_with (at_builtin; refine wpList_app rfl (.tmp 40) (.tmp 42) 34 rfl 39 4 40 El34 (.slice A1 q c1) q (cellsR (fewRow q r)) rfl HOW.out (.slice (some ⟨wr.heap.size + 1, 0, none⟩) 1 1) 1 (cellsV Vl.zero) rfl HSR.out (q + 1) (cellsR (fewRow q r) ++ cellsV Vl.zero) rfl rfl C1.out C2.out ?_; intro A7 c7 w7 a7; have HA7 := Lib.hid a7; clear a7)
              go_roundw
              case measure => simp [intOf]; omega
              case rel =>
                have ha := HA7.out
                refine ⟨q + 1, by go_num, by omega, ?_, ?_, ?_⟩
                · rw [fewRow_succ, show fewV r q = Vl.zero by unfold fewV; rw [List.getElem?_eq_none (by rw [← HLR.out]; omega)], ← cellsR_app]
                  exact ha.own
                · refine HC3.out.trans' ha.chg (fun x hx => .inr ?_)
                  rw [Option.mem_toList] at hx
                  exact HB.out x hx
                · intro x hx
                  rcases ha.at_ x hx with e | e
                  · exact HB.out x e
                  · have := HC3.out.size; omega
          · have hqe : q = n := by omega
            subst hqe
            have hR := HR.out
            rw [HOL.out] at hR
            obtain ⟨u, hu⟩ : ∃ u, u = Value.slice A1 q c1 := ⟨_, rfl⟩
            have hCa : Chg [] wo (wr.alloc (.cells #[.slice A1 q c1] 34)) := HCX.out.alloc _
            have hrow := (hR.chg hCa).row
            rw [HOL.out] at hrow
            have HROW := Lib.hid hrow
            have HVA := Lib.hid (show VAt (wr.alloc (.cells #[.slice A1 q c1] 34)) (.slice A1 q c1) (fewRow q r) from by
              have := Own.alloc HO.out (.cells #[.slice A1 q c1] 34)
              unfold VAt
              rw [fewRow_len]
              exact this)
            have HSR := Lib.hid (Src1.one (w := wr) (e := 34) (u := .slice A1 q c1) rfl)
            have HCA := Lib.hid hCa
            have C1 : Hid (j + 1 ≤ maxLen) := Lib.hid (by unfold maxLen; omega)
            have C2 : Hid ((j + 1) * 24 ≤ 140737488355328) := Lib.hid (by omega)
            clear hR hCa hrow hu
            go_wp2_with (at_builtin; refine wpList_app rfl (.tmp 45) (.tmp 47) 22 rfl 34 1 24 El22 (.slice A0 j c0) j vs rfl HROW.out (.slice (some ⟨wr.heap.size, 0, none⟩) 1 1) 1 [.slice A1 q c1] rfl HSR.out (j + 1) (vs ++ [.slice A1 q c1]) rfl rfl C1.out C2.out ?_; intro A7 c7 w7 a7; have HA7 := Lib.hid a7; clear a7)
            go_roundw
            case measure => simp [intOf]; omega
            case rel =>
              have ha := HA7.out
              have hR := HR.out
              have hC7 : Chg (Value.slice A0 j c0).ownBlock.toList wo w7 := (HCA.out.mono (by simp)).trans ha.chg
              have hV := HV.out
              rw [HOL.out] at hR hV
              refine ⟨j + 1, vs ++ [.slice A1 q c1], by go_num, by omega, by omega, ?_, ?_, ?_⟩
              · rw [take_map_succ HRJ.out]
                exact hR.push HCA.out HVA.out (by rw [HOL.out]; exact ha)
              · refine HCR.out.trans' hC7 (fun x hx => .inr ?_)
                rw [Option.mem_toList] at hx
                exact hV x hx
              · intro x hx
                rcases ha.at_ x hx with e | e
                · exact hV x e
                · have := HCR.out.size; have := HCA.out.size; omega
      · have hje : j = 40 := by omega
        subst hje
        have hk : fewK n L = (L.take 40).map (fewRow n) := rfl
        have HKK := Lib.hid hk
        clear hk
        go_wp2_with fail
        go_ret
        refine ⟨A0, c0, ?_, ?_, HCR.out, ?_⟩
        · rw [HKK.out, HOL.out]; rfl
        · have := HR.out.keys
          rw [HKK.out]
          exact this
        · rw [HKK.out, HOL.out]; have h := HR.out.row; rw [HOL.out] at h; exact h.cap_le
    · have hje : j = m := by omega
      have hk : fewK n L = (L.take j).map (fewRow n) := by
        unfold fewK
        rw [List.take_of_length_le (show L.length ≤ 40 by rw [← HM.out]; omega), List.take_of_length_le (show L.length ≤ j by rw [← HM.out]; omega)]
      have HKK := Lib.hid hk
      clear hk
      subst hje
      go_wp2_with fail
      go_ret
      refine ⟨A0, c0, ?_, ?_, HCR.out, ?_⟩
      · rw [HKK.out, HOL.out]; rfl
      · have := HR.out.keys
        rw [HKK.out]
        exact this
      · rw [HKK.out, HOL.out]; have h := HR.out.row; rw [HOL.out] at h; exact h.cap_le
theorem few10 {w : World} {vL : Value} {L : List (List Vl)} {n : Nat} (hL : KeysAt w vL L) (hn4 : n ≤ 4) :
    Calls Try.prog 10 #[vL, .int .i64 n] w fun e w' => ∃ A c, e = .returned (.slice A (fewK n L).length c) ∧ KeysAt w' (.slice A (fewK n L).length c) (fewK n L) ∧ Chg [] w w' :=
  (few10c hL hn4).mono fun _ _ ⟨A, c, h1, h2, h3, _⟩ => ⟨A, c, h1, h2, h3⟩
end Go.Proofs.Ytkdhhafoohnlnaa
