/-
  The walk of the reference's Groups.
-/
import Derived.Test.YtkdhhafoohnlnaaGrp4
namespace Go.Proofs.Ytkdhhafoohnlnaa
open Go.RowKit

theorem mems_self (K : List (List Vl)) (i : Nat) : mems K i i = [] := by
  unfold mems
  rw [List.filter_eq_nil_iff]
  intro k hk
  have := List.mem_range.1 hk
  simp
  intro h
  omega
theorem mems_le (K : List (List Vl)) (n i : Nat) : (mems K n i).length ≤ n := by
  unfold mems
  have := List.length_filter_le (fun k => decide (i ≤ k) && sameI K k i) (List.range n)
  simpa using this
theorem fsts_le (K : List (List Vl)) (n : Nat) : (fsts K n).length ≤ n := by
  unfold fsts
  have := List.length_filter_le (isFst K) (List.range n)
  simpa using this
def refN (K : List (List Vl)) (n : Nat) : List (List Nat) := (fsts K n).map (mems K K.length)
theorem refN_succ_no {K : List (List Vl)} {n : Nat} (h : isFst K n = false) : refN K (n + 1) = refN K n := by
  unfold refN
  rw [fsts_succ, h]
  simp
theorem refN_succ {K : List (List Vl)} {n : Nat} (h : isFst K n = true) : refN K (n + 1) = refN K n ++ [mems K K.length n] := by
  unfold refN
  rw [fsts_succ, h]
  simp
/-- Is none of the first k rows as row i? -/
def fstUpto (K : List (List Vl)) (i k : Nat) : Bool := (List.range k).all fun q => !sameI K q i
theorem fstUpto_succ (K : List (List Vl)) (i k : Nat) : fstUpto K i (k + 1) = (fstUpto K i k && !sameI K k i) := by
  unfold fstUpto
  rw [List.range_succ, List.all_append]
  simp

/-- Two rows' keys, asked. -/
theorem rsame_at {w : World} {vK : Value} {K : List (List Vl)} (hK : KeysAt w vK K) (hlen : ∀ r, r ∈ K → r.length ≤ 1000) {i j : Nat} (hi : i < K.length) (hj : j < K.length) :
    ∃ b off c u v, vK = .slice (some ⟨b, off, none⟩) K.length c ∧ w.cell? ⟨b, off + i, none⟩ = some u ∧ w.cell? ⟨b, off + j, none⟩ = some v ∧ ∀ w0, Chg [] w w0 → Calls Try.prog 26 #[u, v] w0 fun e w' => e = .returned (.bool (sameI K i j)) ∧ Chg [] w0 w' := by
  obtain ⟨r, hr⟩ : ∃ r, K[i]? = some r := ⟨_, List.getElem?_eq_getElem hi⟩
  obtain ⟨s, hs⟩ : ∃ s, K[j]? = some s := ⟨_, List.getElem?_eq_getElem hj⟩
  obtain ⟨b, off, c, u, rfl, hu, hru⟩ := hK.cell hr
  obtain ⟨b', off', c', v, he, hv, hrv⟩ := hK.cell hs
  injection he with he1 he2 he3
  injection he1 with he1
  injection he1 with e1 e2
  subst e1 e2
  refine ⟨b, off, c, u, v, rfl, hu, hv, fun w0 hC => ?_⟩
  have := rsame_row u v r s w0 (hru.chg hC) (hrv.chg hC) (hlen r (List.mem_of_getElem? hr))
  have e : sameI K i j = sameK r s := by
    unfold sameI
    rw [List.getD_eq_getElem?_getD, List.getD_eq_getElem?_getD, hr, hs]
    rfl
  rw [e]
  exact this

set_option maxRecDepth 100000 in
set_option maxHeartbeats 8000000 in
theorem rgroups_any {w : World} {vK : Value} {K : List (List Vl)} (hK : KeysAt w vK K) (hKl : K.length ≤ 1000) (hlen : ∀ r, r ∈ K → r.length ≤ 1000) :
    Calls Try.prog 12 #[vK] w fun e w' => GrpOf w (refN K K.length) e w' := by
  obtain ⟨AK, cK, hvK⟩ : ∃ A c, vK = .slice A K.length c := by obtain ⟨A, c, _, h, _⟩ := hK; exact ⟨A, c, h⟩
  subst hvK
  obtain ⟨n, hn⟩ : ∃ n, n = K.length := ⟨_, rfl⟩
  have HK := Lib.hid hK
  rw [← hn] at HK hKl ⊢
  have HN := Lib.hid hn
  have HLEN := Lib.hid hlen
  clear hK hn hlen
  go_enter Try.func12, Try.ntmps12
  go_wp2_with fail
  go_loopw [3, 11] (fun v i wr => ∃ (j : Nat) (vs : List Value), i = .int .i64 j ∧ j ≤ n ∧ GAt wr v (refN K j) vs ∧ Chg [] w wr ∧ (∀ k, v.ownBlock = some k → w.heap.size ≤ k) ∧ ∀ u k, u ∈ vs → u.ownBlock = some k → w.heap.size ≤ k) (fun _ i _ => n - (intOf i).toNat)
  case atStart => exact ⟨0, [], rfl, by omega, GAt.nil w, Chg.refl [] w, by simp [Value.ownBlock], by simp⟩
  case round =>
    obtain ⟨j, vs, rfl, hj, hG, hCr, hv, hvs⟩ := hrel
    obtain ⟨A0, c0, rfl⟩ := hG.row.form'
    have HG := Lib.hid hG
    have HCR := Lib.hid hCr
    have HV := Lib.hid hv
    have HVS := Lib.hid hvs
    clear hG hCr hv hvs
    by_cases hlt : j < n
    · have hji : (j : Int) < (n : Int) := by omega
      obtain ⟨m, hm⟩ : ∃ m, m = (refN K j).length := ⟨_, rfl⟩
      rw [← hm]
      have HM := Lib.hid hm
      clear hm
      obtain ⟨wo, hwo⟩ : ∃ wo : World, wo = wr := ⟨_, rfl⟩
      subst hwo
      have HKO := Lib.hid (HK.out.chg HCR.out)
      have HRS := Lib.hid (fun (i q : Nat) (hi : i < n) (hq : q < n) => rsame_at HKO.out HLEN.out (show i < K.length by rw [← HN.out]; exact hi) (show q < K.length by rw [← HN.out]; exact hq))
      rw [← HN.out] at HRS
      go_upto_block 2 with fail
      go_cut [5] (fun s5 wx => s5 = .bool (isFst K j) ∧ Chg [] wo wx)
      case first =>
        go_wp2_with fail
        go_loopw [5, 15] (fun v i wr => ∃ q : Nat, i = .int .i64 q ∧ q ≤ j ∧ v = .bool (fstUpto K j q) ∧ Chg [] wo wr) (fun _ i _ => j - (intOf i).toNat)
        case atStart => exact ⟨0, rfl, by omega, rfl, Chg.refl [] wo⟩
        case round =>
          obtain ⟨q, rfl, hq, rfl, hCq⟩ := hrel
          have HCQ := Lib.hid hCq
          clear hCq
          by_cases hqj : q < j
          · have hsu := fstUpto_succ K j q
            cases hf : fstUpto K j q with
            | true =>
              rw [hf] at hsu
              obtain ⟨b, off, c, u, v, he, hu, hv, hcall⟩ := HRS.out q j (by omega) hlt
              injection he with he1 he2 he3
              subst he1 he3
              have xu := HCQ.out.cell hu (by simp)
              have xv := HCQ.out.cell hv (by simp)
              obtain ⟨s, hs⟩ : ∃ s, s = sameI K q j := ⟨_, rfl⟩
              rw [← hs] at hcall hsu
              have HSU := Lib.hid hsu
              have HCALL := Lib.hid hcall
              have hqn : (q : Int) < (n : Int) := by omega
              clear hu hv hcall hsu hs he2 hf
              go_wp2_with fail
              go_region_held3 (fun w' => w'.cell? ⟨b, off + q, none⟩ = some u ∧ w'.cell? ⟨b, off + j, none⟩ = some v) (first | with_reducible exact ⟨xu, xv⟩ | with_reducible exact ⟨yu, yv⟩ | go_keep)
                (first
                 | (go_at_call 26; (with_reducible refine (HCALL.out _ (by first | exact HCQ.out.drew | exact HCQ.out.same)).mono ?_); rintro e w2 ⟨rfl, hC2⟩; have yu := hC2.cell (p := ⟨b, off + q, none⟩) (by exact xu) (by simp); have yv := hC2.cell (p := ⟨b, off + j, none⟩) (by exact xv) (by simp); have HCC := Lib.hid (Chg.trans (S := []) (a := wo) (by first | exact HCQ.out.drew | exact HCQ.out.same) hC2); clear hC2))
              go_wp2_with fail
              go_roundw
              case measure => simp [intOf]; omega
              case rel => exact ⟨q + 1, by go_num, by omega, by rw [HSU.out]; rfl, HCC.out⟩
            | false =>
              rw [hf] at hsu
              have HSU := Lib.hid hsu
              clear hsu hf
              go_wp2_with fail
              go_quiet (fail)
              go_wp2_with fail
              go_roundw
              case measure => simp [intOf]; omega
              case rel => exact ⟨q + 1, by go_num, by omega, by rw [HSU.out]; rfl, HCQ.out.drewN _⟩
          · have hqe : q = j := by omega
            subst hqe
            have HFU : Hid (fstUpto K q q = isFst K q) := Lib.hid rfl
            go_wp2_with fail
            go_meet
            exact ⟨by rw [HFU.out], HCQ.out⟩
      case rest =>
        obtain ⟨rfl, hCc⟩ := hcut
        have HCC := Lib.hid hCc
        clear hCc
        cases hf : isFst K j with
        | false =>
          have hst := refN_succ_no hf
          have HST := Lib.hid hst
          clear hst hf
          go_wp2_with fail
          go_roundw
          case measure => simp [intOf]; omega
          case rel => exact ⟨j + 1, vs, by go_num, by omega, by rw [HST.out]; have := HG.out.chg HCC.out; rw [← HM.out] at this; exact this, HCR.out.trans HCC.out, by intro k hk; exact HV.out k (by rw [← HM.out]; exact hk), HVS.out⟩
        | true =>
          have hst := refN_succ hf
          have HST := Lib.hid hst
          clear hst hf
          go_upto_block 4 with fail
          go_cut [7] (fun s7 wx => NatsAt wx s7 (mems K n j) ∧ Chg [] wo wx ∧ ∀ k, s7.ownBlock = some k → wo.heap.size ≤ k)
          case first =>
            go_wp2_with fail
            go_loopw [7, 8] (fun v i wr => ∃ k : Nat, i = .int .i64 k ∧ j ≤ k ∧ k ≤ n ∧ NatsAt wr v (mems K k j) ∧ Chg [] wo wr ∧ ∀ b, v.ownBlock = some b → wo.heap.size ≤ b) (fun _ i _ => n - (intOf i).toNat)
            case atStart => exact ⟨j, rfl, by omega, by omega, by rw [mems_self]; exact ⟨rfl, .inl ⟨rfl, rfl⟩⟩, HCC.out, by simp [Value.ownBlock]⟩
            case round =>
              obtain ⟨k, rfl, hjk, hk, hO, hCq, hB⟩ := hrel
              obtain ⟨Al, cl, rfl⟩ := hO.form'
              have HO := Lib.hid hO
              have HCQ := Lib.hid hCq
              have HB := Lib.hid hB
              clear hO hCq hB
              obtain ⟨ml, hml⟩ : ∃ ml, ml = (mems K k j).length := ⟨_, rfl⟩
              have hml1 : ml ≤ k := by rw [hml]; exact mems_le K k j
              rw [← hml]
              by_cases hkn : k < n
              · have hsu := mems_succ K k j
                obtain ⟨b, off, c, u, v, he, hu, hv, hcall⟩ := HRS.out k j hkn hlt
                injection he with he1 he2 he3
                subst he1 he3
                have xu := HCQ.out.cell hu (by simp)
                have xv := HCQ.out.cell hv (by simp)
                have hki : (k : Int) < (n : Int) := by omega
                have hdj : decide (j ≤ k) = true := by simpa using hjk
                obtain ⟨s, hs⟩ : ∃ s, s = sameI K k j := ⟨_, rfl⟩
                rw [← hs] at hcall hsu
                rw [hdj, Bool.true_and] at hsu
                have HSU := Lib.hid hsu
                have HCALL := Lib.hid hcall
                have HML := Lib.hid hml
                clear hu hv hcall hsu hs he2 hdj hml
                cases s with
                | false =>
                  go_wp2_with fail
                  go_region_held3 (fun w' => w'.cell? ⟨b, off + k, none⟩ = some u ∧ w'.cell? ⟨b, off + j, none⟩ = some v) (first | with_reducible exact ⟨xu, xv⟩ | with_reducible exact ⟨yu, yv⟩ | go_keep)
                    (first
                     | (go_at_call 26; (with_reducible refine (HCALL.out _ (by first | exact HCQ.out.drew | exact HCQ.out.same)).mono ?_); rintro e w2 ⟨rfl, hC2⟩; have yu := hC2.cell (p := ⟨b, off + k, none⟩) (by exact xu) (by simp); have yv := hC2.cell (p := ⟨b, off + j, none⟩) (by exact xv) (by simp); have HCD := Lib.hid (Chg.trans (S := []) (a := wr) (by first | exact (Chg.refl [] wr).drew | exact (Chg.refl [] wr).same) hC2); clear hC2))
                  go_wp2_with fail
                  go_roundw
                  case measure => simp [intOf]; omega
                  case rel =>
                    refine ⟨k + 1, by go_num, by omega, by omega, ?_, HCQ.out.trans HCD.out, HML.out ▸ HB.out⟩
                    rw [HSU.out]
                    have := HO.out.chg HCD.out (by simp)
                    rw [HML.out]
                    simpa [NatsAt] using this
                | true =>
                  have hO0 := HO.out
                  unfold NatsAt at hO0
                  rw [← HML.out] at hO0
                  have HO0 := Lib.hid hO0
                  have C1 : Hid (ml + 1 ≤ maxLen) := Lib.hid (by unfold maxLen; omega)
                  have C2 : Hid ((ml + 1) * 8 ≤ 140737488355328) := Lib.hid (by omega)
                  clear hO0
                  go_wp2_with fail
                  go_region_held3 (fun w' => w'.cell? ⟨b, off + k, none⟩ = some u ∧ w'.cell? ⟨b, off + j, none⟩ = some v) (first | with_reducible exact ⟨xu, xv⟩ | with_reducible exact ⟨yu, yv⟩ | go_keep)
                    (first
                     | (go_at_call 26; (with_reducible refine (HCALL.out _ (by first | exact HCQ.out.drew | exact HCQ.out.same)).mono ?_); rintro e w2 ⟨rfl, hC2⟩; have yu := hC2.cell (p := ⟨b, off + k, none⟩) (by exact xu) (by simp); have yv := hC2.cell (p := ⟨b, off + j, none⟩) (by exact xv) (by simp); have HCD := Lib.hid (Chg.trans (S := []) (a := wr) (by first | exact (Chg.refl [] wr).drew | exact (Chg.refl [] wr).same) hC2); have HOW := Lib.hid (Own.alloc (HO0.out.chg HCD.out (by simp)) (.cells #[.int .i64 k] 3)); have HSR := Lib.hid (Src1.one (w := w2) (e := 3) (u := .int .i64 k) rfl); clear hC2))
                  go_wp2_with (at_builtin; refine wpList_app rfl (.tmp 50) (.tmp 52) 28 rfl 3 1 8 El28 (.slice Al ml cl) ml (nats (mems K k j)) rfl HOW.out (.slice (some ⟨w2.heap.size, 0, none⟩) 1 1) 1 [.int .i64 k] rfl HSR.out (ml + 1) (nats (mems K k j) ++ [.int .i64 k]) rfl rfl C1.out C2.out ?_; intro A7 c7 w7 a7; have HA7 := Lib.hid a7; clear a7)
                  go_roundw
                  case measure => simp [intOf]; omega
                  case rel =>
                    have ha := HA7.out
                    have hC7 : Chg (Value.slice Al ml cl).ownBlock.toList wr w7 := ((HCD.out.alloc (.cells #[.int .i64 k] 3)).mono (by simp)).trans ha.chg
                    refine ⟨k + 1, by go_num, by omega, by omega, ?_, ?_, ?_⟩
                    · rw [HSU.out]
                      have := ha.own
                      rw [nats_app] at this
                      rw [HML.out] at this ⊢
                      simpa [NatsAt] using this
                    · refine HCQ.out.trans' hC7 (fun x hx => .inr ?_)
                      rw [Option.mem_toList] at hx
                      exact HB.out x (by rw [← HML.out]; exact hx)
                    · intro x hx
                      rcases ha.at_ x hx with e | e
                      · exact HB.out x (by rw [← HML.out]; exact e)
                      · have := HCQ.out.size; have := HCD.out.size; simp at e; omega
              · have hke : k = n := by omega
                subst hke
                go_wp2_with fail
                go_meet
                exact ⟨by have := HO.out; unfold NatsAt at this ⊢; rw [← hml] at this ⊢; exact this, HCQ.out, by intro x hx; exact HB.out x (by rw [← hml]; exact hx)⟩
          case rest =>
            obtain ⟨hO, hCq, hB⟩ := hcut
            obtain ⟨Al, cl, rfl⟩ := hO.form'
            obtain ⟨ml, hml⟩ : ∃ ml, ml = (mems K n j).length := ⟨_, rfl⟩
            rw [← hml]
            have hne : mems K n j ≠ [] := by
              intro e
              have : j ∈ mems K n j := by unfold mems; rw [List.mem_filter]; exact ⟨by simpa using hlt, by simp [sameI_refl]⟩
              rw [e] at this
              cases this
            have hGc := HG.out.chg hCq
            have hrow := hGc.row
            rw [← HM.out] at hrow
            have hsrc := Src1.one (w := wc) (e := 28) (u := .slice Al ml cl) rfl
            have HROW := Lib.hid (Own.alloc hrow (.cells #[.slice Al ml cl] 28))
            have HSRC := Lib.hid hsrc
            have HGC := Lib.hid hGc
            have HO := Lib.hid hO
            have HCQ := Lib.hid hCq
            have HB := Lib.hid hB
            have HML := Lib.hid hml
            have HNE := Lib.hid hne
            have hm1 : m ≤ j := by rw [HM.out]; unfold refN; rw [List.length_map]; exact fsts_le K j
            have C1 : Hid (m + 1 ≤ maxLen) := Lib.hid (by unfold maxLen; omega)
            have C2 : Hid ((m + 1) * 24 ≤ 140737488355328) := Lib.hid (by omega)
            clear hGc hrow hsrc hO hCq hB hml hne
            go_wp2_with (at_builtin; refine wpList_app rfl (.tmp 54) (.tmp 56) 25 rfl 28 1 24 El25 (.slice A0 m c0) m vs rfl HROW.out (.slice (some ⟨wc.heap.size, 0, none⟩) 1 1) 1 [.slice Al ml cl] rfl HSRC.out (m + 1) (vs ++ [.slice Al ml cl]) rfl rfl C1.out C2.out ?_; intro A7 c7 w7 a7; have HA7 := Lib.hid a7; clear a7)
            go_roundw
            case measure => simp [intOf]; omega
            case rel =>
              have ha := HA7.out
              have hC7 : Chg (Value.slice A0 m c0).ownBlock.toList wo w7 := ((HCQ.out.alloc (.cells #[.slice Al ml cl] 28)).mono (by simp)).trans ha.chg
              refine ⟨j + 1, vs ++ [.slice Al ml cl], by go_num, by omega, ?_, ?_, ?_, ?_⟩
              · rw [HST.out, ← HN.out]
                have hC2 : Chg [] wo (wc.alloc (.cells #[.slice Al ml cl] 28)) := HCQ.out.alloc _
                have hn2 : NatsAt (wc.alloc (.cells #[.slice Al ml cl] 28)) (.slice Al ml cl) (mems K n j) := Own.alloc (by rw [HML.out]; exact HO.out) _
                have := HG.out.push (v' := .slice A7 (m + 1) c7) hC2 hn2 HNE.out (by intro b hb; exact HB.out b (by rw [← HML.out]; exact hb)) (by rw [← HM.out]; exact ha)
                exact this
              · refine HCR.out.trans' hC7 (fun x hx => .inr ?_)
                rw [Option.mem_toList] at hx
                exact HV.out x (by rw [← HM.out]; exact hx)
              · intro k hk
                rcases ha.at_ k hk with e | e
                · exact HV.out k (by rw [← HM.out]; exact e)
                · have := HCR.out.size; have := HCQ.out.size; simp at e; omega
              · intro x k hx hk
                rcases List.mem_append.1 hx with h | h
                · exact HVS.out x k h hk
                · simp at h
                  subst h
                  have := HB.out k (by rw [← HML.out]; exact hk)
                  have := HCR.out.size
                  omega
    · have hjn : j = n := by omega
      subst hjn
      go_wp2_with fail
      go_ret
      exact ⟨A0, c0, vs, rfl, HG.out, HCR.out⟩
end Go.Proofs.Ytkdhhafoohnlnaa
