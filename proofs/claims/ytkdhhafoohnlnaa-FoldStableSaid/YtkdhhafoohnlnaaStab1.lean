/-
  The walk of FoldStable's closure: one column's keys, in an order.
-/
import Derived.Test.YtkdhhafoohnlnaaStabP
import Derived.Test.YtkdhhafoohnlnaaFew3
import Derived.Test.YtkdhhafoohnlnaaSrt5
namespace Go.Proofs.Ytkdhhafoohnlnaa
open Go.RowKit

/-- A column of a row. -/
theorem row_col {w : World} {g cp t : Nat} {r : List Vl} (h : VAt w (.slice (some ⟨g, 0, none⟩) r.length cp) r) (ht : t < r.length) : RowAt w (.slice (some ⟨g, t * 4, none⟩) 1 (cp - t)) [r.getD t Vl.zero] := by
  refine ⟨_, _, rfl, fun j x hx => ?_⟩
  have hj := getElem?_lt hx
  have hj0 : j = 0 := by simp at hj; omega
  subst hj0
  obtain ⟨y, hy⟩ : ∃ y, r[t]? = some y := ⟨_, List.getElem?_eq_getElem ht⟩
  have hxy : x = y := by
    rw [List.getD_eq_getElem?_getD, hy] at hx
    injection hx with hx
    exact hx.symm
  subst hxy
  have key : ∀ q u, q < 4 → (cellsV x)[q]? = some u → w.cell? ⟨g, t * 4 + 0 * 4 + q, none⟩ = some u := by
    intro q u hq hu
    have := World.ownsRow.cells h (g := g) rfl _ _ ((cellsR_get hy hq).trans hu)
    rw [Go.WideShapes.add_plain] at this
    simpa using this
  exact ⟨g, t * 4, rfl, key 0 _ (by omega) rfl, key 1 _ (by omega) rfl, key 2 _ (by omega) rfl, key 3 _ (by omega) rfl⟩
/-- The rows that few lays: where each lies. -/
theorem RAt.at_ {w : World} {A : Option Addr} {n c : Nat} {K : List (List Vl)} {vs : List Value} (h : RAt w (.slice A n c) K vs) {j : Nat} (hj : j < K.length) (hpos : ∀ r, r ∈ K → r.length = 2) :
    ∃ b g cp r, A = some ⟨b, 0, none⟩ ∧ K[j]? = some r ∧ 2 ≤ cp ∧ w.cell? ⟨b, j, none⟩ = some (.slice (some ⟨g, 0, none⟩) 2 cp) ∧ VAt w (.slice (some ⟨g, 0, none⟩) 2 cp) r := by
  obtain ⟨r, hr⟩ : ∃ r, K[j]? = some r := ⟨_, List.getElem?_eq_getElem hj⟩
  obtain ⟨u, hu⟩ : ∃ u, vs[j]? = some u := ⟨_, List.getElem?_eq_getElem (by rw [h.len]; exact hj)⟩
  have hv := h.inn j r u hr hu
  have h2 := hpos r (List.mem_of_getElem? hr)
  rcases h.row.2 with ⟨_, h0⟩ | ⟨b, cap, cur, he, _⟩
  · omega
  · injection he with he1 he2 he3
    subst he1 he3
    have hcell := World.ownsRow.cells h.row (g := b) rfl _ _ hu
    rw [Go.WideShapes.add_plain, Nat.zero_add] at hcell
    obtain ⟨Au, cu, rfl⟩ := hv.form'
    rw [h2] at hcell
    rcases Own.shape hv with ⟨_, _, h0⟩ | ⟨g, rfl, hcap⟩
    · omega
    · refine ⟨b, g, cu, r, rfl, hr, by omega, hcell, ?_⟩
      have := hv
      unfold VAt at this ⊢
      rw [h2] at this ⊢
      exact this

set_option maxRecDepth 100000 in
set_option maxHeartbeats 8000000 in
theorem pick19 {w : World} {bk n c0 col : Nat} {A0 : Option Addr} {K : List (List Vl)} {vs : List Value} {l : List Nat} {vl : Value} (hbk : w.cell? ⟨bk, 0, none⟩ = some (.slice A0 n c0)) (hn : n = K.length) (hR : RAt w (.slice A0 n c0) K vs) (he : Even K 2) (hl : NatsAt w vl l) (hin : ∀ i, i ∈ l → i < K.length) (hll : l.length ≤ 1000) (hcol : col ≤ 1) :
    Calls Try.prog 19 #[vl, .int .i64 col, .pointer (some ⟨bk, 0, none⟩)] w fun e w' => ∃ A c, e = .returned (.slice A l.length c) ∧ KeysAt w' (.slice A l.length c) (pickK K l col) ∧ Chg [] w w' := by
  obtain ⟨AL, cL, hvl⟩ : ∃ A c, vl = .slice A l.length c := by obtain ⟨A, c, h⟩ := hl.form'; exact ⟨A, c, h⟩
  obtain ⟨m, hm⟩ : ∃ m, m = l.length := ⟨_, rfl⟩
  rw [← hm] at hvl hll ⊢
  subst hvl
  have HR := Lib.hid hR
  have HE := Lib.hid he
  have HL := Lib.hid hl
  have HIN := Lib.hid hin
  have HM := Lib.hid hm
  have HN := Lib.hid hn
  obtain ⟨col1, hcol1⟩ : ∃ c, c = col + 1 := ⟨_, rfl⟩
  have hci : (col : Int) + 1 = (col1 : Int) := by omega
  have hcw : IntKind.i64.wrap (col1 : Int) = (col1 : Int) := IntWalk.i64_in _ (by omega)
  have hcs : col1 - col = 1 := by omega
  have hcl : (col : Int) ≤ (col1 : Int) := by omega
  have hcl2 : col ≤ col1 := by omega
  clear hR he hl hin hm hn hcol1
  go_enter Try.func19, Try.ntmps19
  go_wp2_with fail
  go_loopw [6, 11] (fun v i wr => ∃ (j : Nat) (us : List Value), i = .int .i64 j ∧ j ≤ m ∧ Own wr 34 1 v j us ∧ (∀ (q : Nat) (u : Value), us[q]? = some u → ∃ x, l[q]? = some x ∧ RowAt w u [(K.getD x []).getD col Vl.zero]) ∧ Chg [] w wr ∧ (∀ k, v.ownBlock = some k → w.heap.size ≤ k)) (fun _ i _ => m - (intOf i).toNat)
  case atStart => exact ⟨0, [], rfl, by omega, ⟨rfl, .inl ⟨rfl, rfl⟩⟩, by simp, Chg.refl [] w, by simp [Value.ownBlock]⟩
  case round =>
    obtain ⟨j, us, rfl, hj, hO, hU, hC, hV⟩ := hrel
    obtain ⟨A1, c1, rfl⟩ := hO.form'
    have HO := Lib.hid hO
    have HU := Lib.hid hU
    have HC := Lib.hid hC
    have HV := Lib.hid hV
    have xk := hC.cell hbk (by simp)
    clear hO hU hC hV
    by_cases hlt : j < m
    · obtain ⟨x, hx⟩ : ∃ x, l[j]? = some x := ⟨_, List.getElem?_eq_getElem (by rw [← HM.out]; exact hlt)⟩
      obtain ⟨gl, cl, hv, xl⟩ := HL.out.cell hx
      injection hv with hv1 hv2 hv3
      subst hv1 hv3
      have xl' := HC.out.cell xl (by simp)
      have hxn : x < n := by rw [HN.out]; exact HIN.out x (List.mem_of_getElem? hx)
      obtain ⟨b, g, cp, r, rfl, hr, hcp, xr, hva⟩ := HR.out.at_ (j := x) (by rw [← HN.out]; exact hxn) HE.out
      have xr' := HC.out.cell xr (by simp)
      have h2 := HE.out r (List.mem_of_getElem? hr)
      have hrow : RowAt w (.slice (some ⟨g, col * 4, none⟩) 1 (cp - col)) [(K.getD x []).getD col Vl.zero] := by
        have e : K.getD x [] = r := by rw [List.getD_eq_getElem?_getD, hr]; rfl
        rw [e]
        exact row_col (by rw [h2]; exact hva) (by omega)
      have HROW := Lib.hid hrow
      have HX := Lib.hid hx
      have hji : (j : Int) < (m : Int) := by omega
      have hxi : (x : Int) < (n : Int) := by omega
      have hc0 : ¬ cp = col := by omega
      have hc1 : (col1 : Int) ≤ (cp : Int) := by omega
      have hc2 : col1 ≤ cp := by omega
      have C1 : Hid (j + 1 ≤ maxLen) := Lib.hid (by unfold maxLen; omega)
      have C2 : Hid ((j + 1) * 24 ≤ 140737488355328) := Lib.hid (by omega)
      clear xl xr hx hv2 hva hr h2 hrow
      have HOW := Lib.hid (HO.out.alloc (.cells #[.slice (some ⟨g, col * 4, none⟩) 1 (cp - col)] 34))
      have HSR := Lib.hid (Src1.one (w := wr) (e := 34) (u := .slice (some ⟨g, col * 4, none⟩) 1 (cp - col)) rfl)
      go_wp2_with (at_builtin; refine wpList_app rfl (.tmp 15) (.tmp 24) 22 rfl 34 1 24 El22 (.slice A1 j c1) j us rfl HOW.out (.slice (some ⟨wr.heap.size, 0, none⟩) 1 1) 1 [.slice (some ⟨g, col * 4, none⟩) 1 (cp - col)] rfl HSR.out (j + 1) (us ++ [.slice (some ⟨g, col * 4, none⟩) 1 (cp - col)]) rfl rfl C1.out C2.out ?_; intro A7 c7 w7 a7; have HA7 := Lib.hid a7; clear a7)
      go_roundw
      case measure => simp [intOf]; omega
      case rel =>
        have ha := HA7.out
        have hC7 : Chg (Value.slice A1 j c1).ownBlock.toList wr w7 := (((Chg.refl [] wr).alloc (.cells #[.slice (some ⟨g, col * 4, none⟩) 1 (cp - col)] 34)).mono (by simp)).trans ha.chg
        have hul : us.length = j := by have := HO.out.1; simpa using this
        refine ⟨j + 1, us ++ [.slice (some ⟨g, col * 4, none⟩) 1 (cp - col)], by go_num, by omega, ha.own, ?_, ?_, ?_⟩
        · intro q u hu
          by_cases hq : q < us.length
          · rw [List.getElem?_append_left hq] at hu
            exact HU.out q u hu
          · have h1 := getElem?_lt hu
            simp only [List.length_append, List.length_cons, List.length_nil] at h1
            have hqe : q = us.length := by omega
            rw [hqe, List.getElem?_append_right (Nat.le_refl _), Nat.sub_self] at hu
            injection hu with hu
            rw [hqe, hul, ← hu]
            exact ⟨x, HX.out, HROW.out⟩
        · refine HC.out.trans' hC7 (fun y hy => .inr ?_)
          rw [Option.mem_toList] at hy
          exact HV.out y hy
        · intro k hk
          rcases ha.at_ k hk with e | e
          · exact HV.out k e
          · have := HC.out.size; simp at e; omega
    · have hjm : j = m := by omega
      subst hjm
      go_wp2_with fail
      go_ret
      refine ⟨A1, c1, rfl, ?_, HC.out⟩
      refine ⟨A1, c1, fun q => (us[q]?).getD (.bool false), by rw [pick_len, HM.out], fun q r hr => ?_⟩
      have hql := getElem?_lt hr
      rw [pick_len, ← HM.out] at hql
      have hul : us.length = j := by have := HO.out.1; simpa using this
      obtain ⟨u, hu⟩ : ∃ u, us[q]? = some u := ⟨_, List.getElem?_eq_getElem (by omega)⟩
      obtain ⟨x, hx, hrow⟩ := HU.out q u hu
      rcases HO.out.2 with ⟨_, h2⟩ | ⟨g, cap, cur, he, _⟩
      · omega
      · injection he with he1 he2 he3
        subst he1 he3
        have := World.ownsRow.cells HO.out (g := g) rfl _ _ hu
        rw [Go.WideShapes.add_plain] at this
        refine ⟨g, 0, rfl, ?_, ?_⟩
        · show _ = some ((us[q]?).getD _); rw [hu]; exact this
        · show RowAt _ ((us[q]?).getD _) r
          rw [hu]
          unfold pickK at hr
          rw [List.getElem?_map, hx] at hr
          injection hr with hr
          rw [← hr]
          exact hrow.chg HC.out
end Go.Proofs.Ytkdhhafoohnlnaa
