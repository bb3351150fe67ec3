/-
  The walk of the statement FoldKeys.
-/
import Derived.Test.YtkdhhafoohnlnaaRegSkip
namespace Go.Proofs.Ytkdhhafoohnlnaa
open Go.RowKit

set_option maxRecDepth 100000 in
set_option maxHeartbeats 16000000 in
theorem foldKeys {w : World} {vL : Value} {L : List (List Vl)} (hL : KeysAt w vL L) : Calls Try.prog 6 #[vL] w fun e w' => e = .returned (.bool true) ∧ Chg [] w w' := by
  have AW := Lib.hid awake9
  have F := Lib.hid (fun (w0 : World) (hC : Chg [] w w0) => few10 (n := 2) (hL.chg hC) (by omega))
  have hK0 := fewK_len 2 L
  have hK1 : (fewK 2 L).length ≤ 1000 := by omega
  have hK2 : ∀ r, r ∈ fewK 2 L → r.length ≤ 1000 := fun r hr => by rw [fewK_even 2 L r hr]; omega
  have hE := fewK_even 2 L
  obtain ⟨K, hK⟩ : ∃ K, K = fewK 2 L := ⟨_, rfl⟩
  rw [← hK] at F hK0 hK1 hK2 hE
  obtain ⟨n, hn⟩ : ∃ n, n = K.length := ⟨_, rfl⟩
  rw [← hn, show ((2 : Nat) : Int) = 2 from rfl] at F
  obtain ⟨out, hout⟩ : ∃ out, out = grpN K K.length := ⟨_, rfl⟩
  obtain ⟨k, hk⟩ : ∃ k, k = out.length := ⟨_, rfl⟩
  have hg1 := grpN_le K K.length
  rw [← hout] at hg1
  have G := Lib.hid (fun (w0 : World) (v : Value) (h : KeysAt w0 v K) => (groups_any h hK1 hK2).mono (R' := fun e w' => ∃ A c vs, e = .returned (.slice A k c) ∧ GAt w' (.slice A k c) out vs ∧ Chg [] w0 w') (fun e w' h => by rw [hk]; rw [← hout] at h; exact h))
  have hnd : out.flatten.Nodup := by rw [hout]; exact (grp_perm K K.length).nodup_iff.2 List.nodup_range
  have hdone : ∀ f p s, Laid out k 0 f p s → s = n ∧ ∀ i j, i < n → j < n → (f i = f j ↔ sameI K i j = true) := by
    intro f p s h
    rw [hn]
    rw [hk, hout] at h
    exact h.done
  obtain ⟨AL, cL, ll, rfl⟩ : ∃ A c ll, vL = .slice A ll c := by obtain ⟨A, c, _, h, _⟩ := hL; exact ⟨A, c, _, h⟩
  have HG1 := Lib.hid hg1
  have HKK := Lib.hid hk
  have HND := Lib.hid hnd
  have HDONE := Lib.hid hdone
  have HN := Lib.hid hn
  have HE := Lib.hid hE
  have hn40 : n ≤ 40 := by omega
  have hk40 : k ≤ 40 := by omega
  have hfl : out.flatten.length = n := by rw [hout, (grp_perm K K.length).length_eq, hn]; simp
  have HFL := Lib.hid hfl
  have hmm := @run_makeMap Try.prog
  clear hL hK hK0 hK1 hK2 hE hn hfl hout hk hg1 hnd hdone
  go_enter Try.func6, Try.ntmps6
  go_wp2_with (first
    | (go_at_call 9; (with_reducible refine (AW.out _).mono ?_); rintro e w1 ⟨rfl, hC1⟩; have HC1 := Lib.hid hC1; clear hC1)
    | (go_at_call 10; (with_reducible refine (F.out _ HC1.out).mono ?_); rintro e w2 ⟨A2, c2, rfl, hk2, hC2⟩; have HK2 := Lib.hid hk2; have HC2 := Lib.hid (HC1.out.trans hC2); have HM0 := Lib.hid (IMap.made w2); clear hk2 hC2)
    | (go_at_call 11; (with_reducible refine (G.out _ _ (HK2.out.chg ((Chg.refl [] w2).alloc _))).mono ?_); rintro e w3 ⟨A3, c3, vs3, rfl, hg3, hC3⟩; have HG3 := Lib.hid hg3; have HM3 := Lib.hid (HM0.out.chg hC3 (by simp)); have HC3 := Lib.hid hC3; clear hg3 hC3))
  obtain ⟨bm, hbm⟩ : ∃ bm, bm = w2.heap.size := ⟨_, rfl⟩
  rw [← hbm] at HM3 ⊢
  have HBM := Lib.hid hbm
  clear hbm
  go_loopw [20] (fun i wr => ∃ (g s : Nat) (f : Nat → Nat) (p : Nat → Bool), i = .int .i64 g ∧ g ≤ k ∧ IMap wr bm s f p s ∧ Laid out g 0 f p s ∧ Chg [bm] w3 wr) (fun i _ => k - (intOf i).toNat)
  case atStart => exact ⟨0, 0, _, _, rfl, by omega, HM3.out, Laid.start out, Chg.refl _ w3⟩
  case round =>
    obtain ⟨g, s, f, p, rfl, hg, hM, hLd, hC⟩ := hrel
    have HMA := Lib.hid hM
    have HLA := Lib.hid hLd
    have HCA := Lib.hid hC
    clear hM hLd hC
    by_cases hlt : g < k
    · obtain ⟨gb, ub, cu, l, hA3, hl, xg, xl⟩ := HG3.out.cells (g := g) (by rw [← HKK.out]; exact hlt)
      subst hA3
      have xg' := (Keep.of_map HM3.out HCA.out) xg
      have XL := Lib.hid xl
      have HL := Lib.hid hl
      obtain ⟨m, hm⟩ : ∃ m, m = l.length := ⟨_, rfl⟩
      rw [← hm] at xg'
      have hm40 : m ≤ 40 := by have := (HG1.out.2 l (List.mem_of_getElem? hl)).1; rw [← HN.out] at this; omega
      have HMM := Lib.hid hm
      have hgi : (g : Int) < (k : Int) := by omega
      clear xg xl hl hm
      go_wp2_with fail
      go_loopw [27] (fun i wr => ∃ (t s : Nat) (f : Nat → Nat) (p : Nat → Bool), i = .int .i64 t ∧ t ≤ m ∧ IMap wr bm s f p s ∧ Laid out g t f p s ∧ Chg [bm] w3 wr) (fun i _ => m - (intOf i).toNat)
      case atStart => exact ⟨0, s, f, p, rfl, by omega, HMA.out, HLA.out, HCA.out⟩
      case round =>
        obtain ⟨t, s, f, p, rfl, ht, hM, hLd, hC⟩ := hrel
        have HMB := Lib.hid hM
        have HLB := Lib.hid hLd
        have HCB := Lib.hid hC
        clear hM hLd hC
        by_cases hlt' : t < m
        · obtain ⟨x, hx⟩ : ∃ x, l[t]? = some x := ⟨_, List.getElem?_eq_getElem (by rw [← HMM.out]; exact hlt')⟩
          have xx := (Keep.of_map HM3.out HCB.out) (XL.out t x hx)
          have hxn : x ≤ 1000000 := by have := (HG1.out.2 l (List.mem_of_getElem? HL.out)).2 x (List.mem_of_getElem? hx); rw [← HN.out] at this; omega
          have hs : s < 1000000 := by have := HLB.out.le HL.out (by rw [← HMM.out]; exact ht); rw [HFL.out] at this; omega
          have hst := HLB.out.step HND.out ⟨l, HL.out, hx⟩
          have hpx : p x = false := HLB.out.no g t x ⟨l, HL.out, hx⟩ (by omega)
          rw [hpx] at hst
          have HST := Lib.hid hst
          have HPX := Lib.hid hpx
          have HXN := Lib.hid hxn
          have HS := Lib.hid hs
          have HGN := Lib.hid (show g ≤ 1000000 by omega)
          have hti : (t : Int) < (m : Int) := by omega
          clear hx hxn hs hst hpx
          go_wp2_with (at_mapUpdate; refine wpList_iput rfl (.tmp 31) (.tmp 32) (.tmp 33) rfl bm s s f p x g rfl rfl rfl HMB.out HS.out HXN.out HGN.out ?_; intro w5 hm5 hC5; have HM5 := Lib.hid hm5; have HC5 := Lib.hid hC5; clear hm5 hC5)
          go_roundw
          case measure => simp [intOf]; omega
          case rel =>
            have := HM5.out
            rw [HPX.out] at this
            exact ⟨t + 1, s + 1, _, _, by go_num, by omega, this, HST.out, HCB.out.trans HC5.out⟩
        · have hte : t = m := by omega
          have hnx : Laid out (g + 1) 0 f p s := by
            have := HLB.out
            rw [hte, HMM.out] at this
            exact this.next HL.out
          have HNX := Lib.hid hnx
          clear hnx
          go_wp2_with fail
          go_roundw
          case measure => simp [intOf]; omega
          case rel => exact ⟨g + 1, s, f, p, by go_num, by omega, HMB.out, HNX.out, HCB.out⟩
    · have hge : g = k := by omega
      subst hge
      obtain ⟨hs, hd⟩ := HDONE.out f p s HLA.out
      subst hs
      have HD := Lib.hid hd
      have HKM := Lib.hid (((HK2.out.chg ((Chg.refl [] w2).alloc _)).chg HC3.out).keep (Keep.of_map HM3.out HCA.out))
      have HB := Lib.hid (fun (j : Nat) (hj : j < s) => HKM.out.at_ (j := j) (by rw [← HN.out]; exact hj))
      have HALL : Hid (Chg [] w wr) := Lib.hid (HC2.out.trans ((((Chg.refl [] w2).alloc (.map #[] 0)).trans HC3.out).trans' HCA.out (fun x hx => .inr (by simp at hx; have := HBM.out; omega))))
      have hnil : ∀ w0 : World, BoolAt w0 (.slice none 0 0) [] := fun _ => ⟨_, _, rfl, by simp⟩
      have HNIL := Lib.hid hnil
      obtain ⟨wm, hwm⟩ : ∃ wm : World, wm = wr := ⟨_, rfl⟩
      subst hwm
      clear hd hnil
      go_wp2_with fail
      go_loopw [38] (fun i wr => ∃ i' : Nat, i = .int .i64 i' ∧ i' ≤ s ∧ Chg [] wm wr) (fun i _ => s - (intOf i).toNat)
      case atStart => exact ⟨0, rfl, by omega, Chg.refl [] wm⟩
      case round =>
        obtain ⟨i, rfl, hi, hC⟩ := hrel
        have HCB := Lib.hid hC
        clear hC
        by_cases hli : i < s
        · obtain ⟨b, off, A4, c4, ra, hA2, hra, xa, rowa⟩ := HB.out i hli
          subst hA2
          have la := HE.out ra (List.mem_of_getElem? hra)
          rw [la] at xa rowa
          have HXA := Lib.hid xa
          have HRA := Lib.hid rowa
          have hia : K.getD i [] = ra := by rw [List.getD_eq_getElem?_getD, hra]; rfl
          have HIA := Lib.hid hia
          have HLA' := Lib.hid la
          have hii : (i : Int) < (s : Int) := by omega
          clear xa rowa hra hia la
          go_wp2_with fail
          go_loopw [43] (fun j wr => ∃ j' : Nat, j = .int .i64 j' ∧ j' ≤ s ∧ Chg [] wm wr) (fun j _ => s - (intOf j).toNat)
          case atStart => exact ⟨0, rfl, by omega, HCB.out⟩
          case round =>
            obtain ⟨j, rfl, hj, hC⟩ := hrel
            have HCC := Lib.hid hC
            clear hC
            by_cases hlj : j < s
            · obtain ⟨b', off', A5, c5, rb, hA2, hrb, xb, rowb⟩ := HB.out j hlj
              injection hA2 with hA2
              injection hA2 with hA2 hA3
              subst hA2 hA3
              have lb := HE.out rb (List.mem_of_getElem? hrb)
              rw [lb] at xb rowb
              have hjb : K.getD j [] = rb := by rw [List.getD_eq_getElem?_getD, hrb]; rfl
              have hal := alike_same HE.out (i := i) (j := j) (by rw [← HN.out]; exact hli) (by rw [← HN.out]; exact hlj)
              have hfd := HD.out i j hli hlj
              unfold ltI at hal
              rw [HIA.out, hjb] at hal
              have C1 := Lib.hid (less_rows HRA.out rowb (HNIL.out wm) (by rw [HLA'.out]; omega))
              have C2 := Lib.hid (less_rows rowb HRA.out (HNIL.out wm) (by rw [lb]; omega))
              have x0 := HCC.out.cell HXA.out (by simp)
              have x1 := HCC.out.cell xb (by simp)
              have hji : (j : Int) < (s : Int) := by omega
              have HIN := Lib.hid (show i ≤ 1000000 by omega)
              have HJN := Lib.hid (show j ≤ 1000000 by omega)
              obtain ⟨fi, hfi⟩ : ∃ v, f i = v := ⟨_, rfl⟩
              obtain ⟨fj, hfj⟩ : ∃ v, f j = v := ⟨_, rfl⟩
              rw [hfi, hfj] at hfd
              have HFI := Lib.hid hfi
              have HFJ := Lib.hid hfj
              clear hrb xb rowb hjb lb hfi hfj
              cases h1 : lessK ra rb [] with
              | true =>
                rw [h1] at C1 hal
                have hq : sameI K i j = false := by rw [← hal]; rfl
                rw [hq] at hfd
                have hne : ¬ (fi : Int) = (fj : Int) := fun e => by have := hfd.1 (by omega); cases this
                clear h1 hal hq hfd
                go_wp2_with fail
                refine wp_region_held_drew (S := fun w' => w'.cell? ⟨b, off + i, none⟩ = some (.slice A4 2 c4) ∧ w'.cell? ⟨b, off + j, none⟩ = some (.slice A5 2 c5)) (by kernel_rfl) ⟨x0, x1⟩ (fun hHeld => ?_)
                refine region_take (i := 0) (d := some 46) (v := .slice (some ⟨b, off, none⟩) s c2) rfl (by kernel_rfl) (by kernel_rfl) (by kernel_rfl) (fun _ _ _ h => h) ?_ (by assumption) ?_
                · (intro oi ho; simp only [List.getElem?_toArray, List.getElem?_cons_zero, Option.some.injEq] at ho; subst ho; refine ⟨by rfl, ?_⟩; intro w hSw; (try dsimp only at hSw); go_simp)
                (try simp only [Act.put, List.setIfInBounds_toArray, List.set_cons_zero, List.set_cons_succ])
                refine region_take (i := 1) (d := some 47) (v := .int .i64 i) rfl (by kernel_rfl) (by kernel_rfl) (by kernel_rfl) (fun _ _ _ h => h) ?_ (by assumption) ?_
                · (intro oi ho; simp only [List.getElem?_toArray, List.getElem?_cons_succ, List.getElem?_cons_zero, Option.some.injEq] at ho; subst ho; refine ⟨by rfl, ?_⟩; intro w hSw; (try dsimp only at hSw); go_simp)
                (try simp only [Act.put, List.setIfInBounds_toArray, List.set_cons_zero, List.set_cons_succ])
                refine region_take (i := 2) (d := some 48) (v := .pointer (some ⟨b, off + i, none⟩)) rfl (by kernel_rfl) (by kernel_rfl) (by kernel_rfl) (fun _ _ _ h => h) ?_ (by assumption) ?_
                · (intro oi ho; simp only [List.getElem?_toArray, List.getElem?_cons_succ, List.getElem?_cons_zero, Option.some.injEq] at ho; subst ho; refine ⟨by rfl, ?_⟩; intro w hSw; (try dsimp only at hSw); go_simp)
                (try simp only [Act.put, List.setIfInBounds_toArray, List.set_cons_zero, List.set_cons_succ])
                refine region_take (i := 3) (d := some 49) (v := .slice A4 2 c4) rfl (by kernel_rfl) (by kernel_rfl) (by kernel_rfl) (fun _ _ _ h => h) ?_ (by assumption) ?_
                · (intro oi ho; simp only [List.getElem?_toArray, List.getElem?_cons_succ, List.getElem?_cons_zero, Option.some.injEq] at ho; subst ho; refine ⟨by rfl, ?_⟩; intro w hSw; (try dsimp only at hSw); go_simp)
                (try simp only [Act.put, List.setIfInBounds_toArray, List.set_cons_zero, List.set_cons_succ])
                refine region_take (i := 4) (d := some 50) (v := .slice (some ⟨b, off, none⟩) s c2) rfl (by kernel_rfl) (by kernel_rfl) (by kernel_rfl) (fun _ _ _ h => h) ?_ (by assumption) ?_
                · (intro oi ho; simp only [List.getElem?_toArray, List.getElem?_cons_succ, List.getElem?_cons_zero, Option.some.injEq] at ho; subst ho; refine ⟨by rfl, ?_⟩; intro w hSw; (try dsimp only at hSw); go_simp)
                (try simp only [Act.put, List.setIfInBounds_toArray, List.set_cons_zero, List.set_cons_succ])
                refine region_take (i := 5) (d := some 51) (v := .int .i64 j) rfl (by kernel_rfl) (by kernel_rfl) (by kernel_rfl) (fun _ _ _ h => h) ?_ (by assumption) ?_
                · (intro oi ho; simp only [List.getElem?_toArray, List.getElem?_cons_succ, List.getElem?_cons_zero, Option.some.injEq] at ho; subst ho; refine ⟨by rfl, ?_⟩; intro w hSw; (try dsimp only at hSw); go_simp)
                (try simp only [Act.put, List.setIfInBounds_toArray, List.set_cons_zero, List.set_cons_succ])
                refine region_take (i := 6) (d := some 52) (v := .pointer (some ⟨b, off + j, none⟩)) rfl (by kernel_rfl) (by kernel_rfl) (by kernel_rfl) (fun _ _ _ h => h) ?_ (by assumption) ?_
                · (intro oi ho; simp only [List.getElem?_toArray, List.getElem?_cons_succ, List.getElem?_cons_zero, Option.some.injEq] at ho; subst ho; refine ⟨by rfl, ?_⟩; intro w hSw; (try dsimp only at hSw); go_simp)
                (try simp only [Act.put, List.setIfInBounds_toArray, List.set_cons_zero, List.set_cons_succ])
                refine region_take (i := 7) (d := some 53) (v := .slice A5 2 c5) rfl (by kernel_rfl) (by kernel_rfl) (by kernel_rfl) (fun _ _ _ h => h) ?_ (by assumption) ?_
                · (intro oi ho; simp only [List.getElem?_toArray, List.getElem?_cons_succ, List.getElem?_cons_zero, Option.some.injEq] at ho; subst ho; refine ⟨by rfl, ?_⟩; intro w hSw; (try dsimp only at hSw); go_simp)
                (try simp only [Act.put, List.setIfInBounds_toArray, List.set_cons_zero, List.set_cons_succ])
                refine region_only (i := 8) rfl (by kernel_rfl) ?_
                intro o ho K' hK
                simp only [List.getElem?_toArray, List.getElem?_cons_succ, List.getElem?_cons_zero, Option.some.injEq] at ho; subst ho
                go_simp
                (go_at_call 17; (with_reducible refine (C1.out _ (by first | exact HCC.out.drew | exact HCC.out.same)).mono ?_); rintro e w5 ⟨rfl, hC2⟩; have y0 := hC2.cell (p := ⟨b, off + i, none⟩) (by exact x0) (by simp); have y1 := hC2.cell (p := ⟨b, off + j, none⟩) (by exact x1) (by simp); have HC5 := Lib.hid (Chg.trans (S := []) (a := wm) (by first | exact HCC.out.drew | exact HCC.out.same) hC2); clear hC2)
                refine hK _ _ ⟨y0, y1⟩ (fun hHeld2 => ?_)
                clear hK K'
                (try simp only [Act.put, List.setIfInBounds_toArray, List.set_cons_zero, List.set_cons_succ])
                refine region_take (i := 9) (d := some 55) (v := .bool false) rfl (by kernel_rfl) (by kernel_rfl) (by kernel_rfl) (fun _ _ _ h => h) ?_ (by assumption) ?_
                · (intro oi ho; simp only [List.getElem?_toArray, List.getElem?_cons_succ, List.getElem?_cons_zero, Option.some.injEq] at ho; subst ho; refine ⟨by rfl, ?_⟩; intro w hSw; (try dsimp only at hSw); go_simp)
                (try simp only [Act.put, List.setIfInBounds_toArray, List.set_cons_zero, List.set_cons_succ])
                refine region_take (i := 10) (d := some 56) (v := .bool false) rfl (by kernel_rfl) (by kernel_rfl) (by kernel_rfl) (fun _ _ _ h => h) ?_ (by assumption) ?_
                · (intro oi ho; simp only [List.getElem?_toArray, List.getElem?_cons_succ, List.getElem?_cons_zero, Option.some.injEq] at ho; subst ho; refine ⟨by rfl, ?_⟩; intro w hSw; (try dsimp only at hSw); go_simp)
                (try simp only [Act.put, List.setIfInBounds_toArray, List.set_cons_zero, List.set_cons_succ])
                refine region_skip (i := 11) (d := some 57) rfl (by rfl) (by kernel_rfl) (by kernel_rfl) (by kernel_rfl) (fun _ _ _ h => h) (by assumption) ?_
                (try simp only [Act.put, List.setIfInBounds_toArray, List.set_cons_zero, List.set_cons_succ])
                refine region_skip (i := 12) (d := some 58) rfl (by rfl) (by kernel_rfl) (by kernel_rfl) (by kernel_rfl) (fun _ _ _ h => h) (by assumption) ?_
                (try simp only [Act.put, List.setIfInBounds_toArray, List.set_cons_zero, List.set_cons_succ])
                refine region_skip (i := 13) (d := some 59) rfl (by rfl) (by kernel_rfl) (by kernel_rfl) (by kernel_rfl) (fun _ _ _ h => h) (by assumption) ?_
                (try simp only [Act.put, List.setIfInBounds_toArray, List.set_cons_zero, List.set_cons_succ])
                refine region_skip (i := 14) (d := some 60) rfl (by rfl) (by kernel_rfl) (by kernel_rfl) (by kernel_rfl) (fun _ _ _ h => h) (by assumption) ?_
                (try simp only [Act.put, List.setIfInBounds_toArray, List.set_cons_zero, List.set_cons_succ])
                refine region_skip (i := 15) (d := some 61) rfl (by rfl) (by kernel_rfl) (by kernel_rfl) (by kernel_rfl) (fun _ _ _ h => h) (by assumption) ?_
                (try simp only [Act.put, List.setIfInBounds_toArray, List.set_cons_zero, List.set_cons_succ])
                refine region_skip (i := 16) (d := some 62) rfl (by rfl) (by kernel_rfl) (by kernel_rfl) (by kernel_rfl) (fun _ _ _ h => h) (by assumption) ?_
                (try simp only [Act.put, List.setIfInBounds_toArray, List.set_cons_zero, List.set_cons_succ])
                refine region_skip (i := 17) (d := some 63) rfl (by rfl) (by kernel_rfl) (by kernel_rfl) (by kernel_rfl) (fun _ _ _ h => h) (by assumption) ?_
                (try simp only [Act.put, List.setIfInBounds_toArray, List.set_cons_zero, List.set_cons_succ])
                refine region_skip (i := 18) (d := some 64) rfl (by rfl) (by kernel_rfl) (by kernel_rfl) (by kernel_rfl) (fun _ _ _ h => h) (by assumption) ?_
                (try simp only [Act.put, List.setIfInBounds_toArray, List.set_cons_zero, List.set_cons_succ])
                refine region_only (i := 19) rfl (by kernel_rfl) ?_
                intro o ho K' hK
                simp only [List.getElem?_toArray, List.getElem?_cons_succ, List.getElem?_cons_zero, Option.some.injEq] at ho; subst ho
                go_simp
                refine hK _ _ hHeld2 (fun hHeld3 => ?_)
                clear hK K'
                (try simp only [Act.put, List.setIfInBounds_toArray, List.set_cons_zero, List.set_cons_succ])
                refine region_skip (i := 20) (d := some 66) rfl (by rfl) (by kernel_rfl) (by kernel_rfl) (by kernel_rfl) (fun _ _ _ h => h) (by assumption) ?_
                (try simp only [Act.put, List.setIfInBounds_toArray, List.set_cons_zero, List.set_cons_succ])
                refine region_take (i := 21) (d := some 67) (v := .bool false) rfl (by kernel_rfl) (by kernel_rfl) (by kernel_rfl) (fun _ _ _ h => h) ?_ (by assumption) ?_
                · (intro oi ho; simp only [List.getElem?_toArray, List.getElem?_cons_succ, List.getElem?_cons_zero, Option.some.injEq] at ho; subst ho; refine ⟨by rfl, ?_⟩; intro w hSw; (try dsimp only at hSw); go_simp)
                (try simp only [Act.put, List.setIfInBounds_toArray, List.set_cons_zero, List.set_cons_succ])
                refine region_take (i := 22) (d := some 11) (v := .bool false) rfl (by kernel_rfl) (by kernel_rfl) (by kernel_rfl) (fun _ _ _ h => h) ?_ (by assumption) ?_
                · (intro oi ho; simp only [List.getElem?_toArray, List.getElem?_cons_succ, List.getElem?_cons_zero, Option.some.injEq] at ho; subst ho; refine ⟨by rfl, ?_⟩; intro w hSw; (try dsimp only at hSw); go_simp)
                (try simp only [Act.put, List.setIfInBounds_toArray, List.set_cons_zero, List.set_cons_succ])
                refine wpAnyH_done (by kernel_rfl) ?_ _
                have HM5 := Lib.hid (HMA.out.chg HC5.out (by simp))
                go_wp2_with (first
                  | (at_lookup; refine wpList_iget rfl (.tmp 68) (.tmp 69) rfl bm s s f p i fi rfl rfl HM5.out HIN.out HFI.out ?_)
                  | (at_lookup; refine wpList_iget rfl (.tmp 71) (.tmp 72) rfl bm s s f p j fj rfl rfl HM5.out HJN.out HFJ.out ?_))
                go_roundw
                case measure => simp [intOf]; omega
                case rel => exact ⟨j + 1, by go_num, by omega, HC5.out⟩
              | false =>
                rw [h1] at C1 hal
                cases h2 : lessK rb ra [] with
                | true =>
                  rw [h2] at C2 hal
                  have hq : sameI K i j = false := by rw [← hal]; rfl
                  rw [hq] at hfd
                  have hne : ¬ (fi : Int) = (fj : Int) := fun e => by have := hfd.1 (by omega); cases this
                  clear h1 h2 hal hq hfd
                  go_wp2_with fail
                  go_region_held3 (fun w' => w'.cell? ⟨b, off + i, none⟩ = some (.slice A4 2 c4) ∧ w'.cell? ⟨b, off + j, none⟩ = some (.slice A5 2 c5)) (first | with_reducible exact ⟨x0, x1⟩ | with_reducible exact ⟨y0, y1⟩ | go_keep)
                    (first
                     | (go_at_call 17; (with_reducible refine (C1.out _ (by first | exact HC5.out.same | exact HC5.out.drew | exact HCC.out.drew | exact HCC.out.same)).mono ?_); rintro e w5 ⟨rfl, hC2⟩; have y0 := hC2.cell (p := ⟨b, off + i, none⟩) (by first | exact y0 | exact x0) (by simp); have y1 := hC2.cell (p := ⟨b, off + j, none⟩) (by first | exact y1 | exact x1) (by simp); have HC5 := Lib.hid (Chg.trans (S := []) (a := wm) (by first | exact HC5.out.same | exact HC5.out.drew | exact HCC.out.drew | exact HCC.out.same) hC2); clear hC2)
                     | (go_at_call 17; (with_reducible refine (C2.out _ (by first | exact HC5.out.same | exact HC5.out.drew | exact HCC.out.drew | exact HCC.out.same)).mono ?_); rintro e w5 ⟨rfl, hC2⟩; have y0 := hC2.cell (p := ⟨b, off + i, none⟩) (by first | exact y0 | exact x0) (by simp); have y1 := hC2.cell (p := ⟨b, off + j, none⟩) (by first | exact y1 | exact x1) (by simp); have HC5 := Lib.hid (Chg.trans (S := []) (a := wm) (by first | exact HC5.out.same | exact HC5.out.drew | exact HCC.out.drew | exact HCC.out.same) hC2); clear hC2))
                  have HM5 := Lib.hid (HMA.out.chg HC5.out (by simp))
                  go_wp2_with (first
                    | (at_lookup; refine wpList_iget rfl (.tmp 68) (.tmp 69) rfl bm s s f p i fi rfl rfl HM5.out HIN.out HFI.out ?_)
                    | (at_lookup; refine wpList_iget rfl (.tmp 71) (.tmp 72) rfl bm s s f p j fj rfl rfl HM5.out HJN.out HFJ.out ?_))
                  go_roundw
                  case measure => simp [intOf]; omega
                  case rel => exact ⟨j + 1, by go_num, by omega, HC5.out⟩
                | false =>
                  rw [h2] at C2 hal
                  have hq : sameI K i j = true := by rw [← hal]; rfl
                  rw [hq] at hfd
                  have heq : fi = fj := hfd.2 rfl
                  subst heq
                  clear h1 h2 hal hq hfd
                  go_wp2_with fail
                  go_region_held3 (fun w' => w'.cell? ⟨b, off + i, none⟩ = some (.slice A4 2 c4) ∧ w'.cell? ⟨b, off + j, none⟩ = some (.slice A5 2 c5)) (first | with_reducible exact ⟨x0, x1⟩ | with_reducible exact ⟨y0, y1⟩ | go_keep)
                    (first
                     | (go_at_call 17; (with_reducible refine (C1.out _ (by first | exact HC5.out.same | exact HC5.out.drew | exact HCC.out.drew | exact HCC.out.same)).mono ?_); rintro e w5 ⟨rfl, hC2⟩; have y0 := hC2.cell (p := ⟨b, off + i, none⟩) (by first | exact y0 | exact x0) (by simp); have y1 := hC2.cell (p := ⟨b, off + j, none⟩) (by first | exact y1 | exact x1) (by simp); have HC5 := Lib.hid (Chg.trans (S := []) (a := wm) (by first | exact HC5.out.same | exact HC5.out.drew | exact HCC.out.drew | exact HCC.out.same) hC2); clear hC2)
                     | (go_at_call 17; (with_reducible refine (C2.out _ (by first | exact HC5.out.same | exact HC5.out.drew | exact HCC.out.drew | exact HCC.out.same)).mono ?_); rintro e w5 ⟨rfl, hC2⟩; have y0 := hC2.cell (p := ⟨b, off + i, none⟩) (by first | exact y0 | exact x0) (by simp); have y1 := hC2.cell (p := ⟨b, off + j, none⟩) (by first | exact y1 | exact x1) (by simp); have HC5 := Lib.hid (Chg.trans (S := []) (a := wm) (by first | exact HC5.out.same | exact HC5.out.drew | exact HCC.out.drew | exact HCC.out.same) hC2); clear hC2))
                  have HM5 := Lib.hid (HMA.out.chg HC5.out (by simp))
                  go_wp2_with (first
                    | (at_lookup; refine wpList_iget rfl (.tmp 68) (.tmp 69) rfl bm s s f p i fi rfl rfl HM5.out HIN.out HFI.out ?_)
                    | (at_lookup; refine wpList_iget rfl (.tmp 71) (.tmp 72) rfl bm s s f p j fi rfl rfl HM5.out HJN.out HFJ.out ?_))
                  go_roundw
                  case measure => simp [intOf]; omega
                  case rel => exact ⟨j + 1, by go_num, by omega, HC5.out⟩
            · go_wp2_with fail
              go_roundw
              case measure => simp [intOf]; omega
              case rel => exact ⟨i + 1, by go_num, by omega, HCC.out⟩
        · have HMF := Lib.hid (HMA.out.chg HCB.out (by simp))
          go_wp2_with (at_len; refine wpList_ilen rfl (.tmp 79) rfl bm s s f p rfl HMF.out ?_)
          go_ret
          exact ⟨rfl, HALL.out.trans HCB.out⟩
end Go.Proofs.Ytkdhhafoohnlnaa
