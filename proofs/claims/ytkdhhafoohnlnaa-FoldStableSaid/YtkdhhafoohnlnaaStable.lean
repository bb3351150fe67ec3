/-
  The walk of the statement FoldStable.
-/
import Derived.Test.YtkdhhafoohnlnaaStab1
import Derived.Test.YtkdhhafoohnlnaaSorts
namespace Go.Proofs.Ytkdhhafoohnlnaa
open Go.RowKit

theorem src_one' {w w' X : World} {S : List Nat} {u : Value} {G e : Nat} (h1 : u.oneCell' = true) (hC : Chg [] (X.alloc (.cells #[u] e)) w) (hC2 : Chg S w w') (hX : X.heap.size = G) (hG : G ∉ S) : Src1 w' 1 (.slice (some ⟨G, 0, none⟩) 1 1) 1 [u] := by
  subst hX
  refine ⟨rfl, by simpa using h1, .inr ⟨_, 1, rfl, fun j u' hu => ?_⟩⟩
  have hj : j = 0 := by have := getElem?_lt hu; simp at this; omega
  subst hj
  injection hu with hu
  subst hu
  exact hC2.cell (hC.cell (cell_one_new X u e 0 u rfl) (by simp)) hG
theorem lit2_at {X Y : World} {y1 y0 : Vl} {G : Nat} (hC : Chg [] (Y.alloc (.cells #[.int .u8 y1.k, .int .i64 y1.i, .string y1.s, .bool y1.b, .int .u8 y0.k, .int .i64 y0.i, .string y0.s, .bool y0.b] 39)) X) (hG : Y.heap.size = G) : VAt X (.slice (some ⟨G, 0, none⟩) 2 2) [y1, y0] := by
  subst hG
  have h := World.ownsRow_lit (base := 0) (e := 39) (size := 4) Y #[.int .u8 y1.k, .int .i64 y1.i, .string y1.s, .bool y1.b, .int .u8 y0.k, .int .i64 y0.i, .string y0.s, .bool y0.b] 2 (Nat.zero_le _) (by decide) rfl
  exact Own.chg h hC (by simp)
theorem RAt.push' {w w2 w3 : World} {v v' u : Value} {out : List (List Vl)} {vs : List Value} {l0 : List Vl} {N : Nat} (ha : App w2 w3 34 1 v v' N (vs ++ [u])) (hN : out.length + 1 = N) (h : RAt w v out vs) (hC : Chg [] w w2) (hu : VAt w2 u l0) : RAt w3 v' (out ++ [l0]) (vs ++ [u]) := by
  subst hN
  exact RAt.push h hC hu ha
theorem own_keep {w X w8 : World} {vb vb' va : Value} {N n m : Nat} {xs ys us : List Value} (ha : App X w8 34 1 vb vb' N xs) (hC : Chg [] w X) (h : Own w 3 1 va n ys) (hb : Own w 34 1 vb m us) : Own w8 3 1 va n ys := by
  have h1 := h.chg hC (by simp)
  have h2 := hb.chg hC (by simp)
  refine h1.chg ha.chg (fun k hk hm => ?_)
  rw [Option.mem_toList] at hm
  exact h2.apart h1 (by decide) hm hk
theorem both_take {K : List (List Vl)} {j : Nat} {r : List Vl} (h : K[j]? = some r) : (bothK K).take (j + 1) = (bothK K).take j ++ [bothR r] := by
  unfold bothK
  rw [List.take_add_one, List.getElem?_map, h]
  rfl

set_option maxRecDepth 100000 in
set_option maxHeartbeats 8000000 in
theorem foldStable {w : World} {vL : Value} {L : List (List Vl)} (hL : KeysAt w vL L) : Calls Try.prog 5 #[vL] w fun e w' => e = .returned (.bool true) ∧ Chg [] w w' := by
  have AW := Lib.hid awake9
  have F := Lib.hid (fun (w0 : World) (hC : Chg [] w w0) => few10r (n := 2) (hL.chg hC) (by omega))
  have hK0 := fewK_len 2 L
  have hE := fewK_even 2 L
  obtain ⟨K, hK⟩ : ∃ K, K = fewK 2 L := ⟨_, rfl⟩
  rw [← hK] at F hK0 hE
  rw [show ((2 : Nat) : Int) = 2 from rfl] at F
  obtain ⟨n, hn⟩ : ∃ n, n = K.length := ⟨_, rfl⟩
  rw [← hn] at F hK0
  have hmf : ∀ (fn : Fn) (first cap : Array Value) (w : World), (Instr.makeFunc fn first cap).run Try.prog w = .ok (.func fn first cap) w := fun _ _ _ _ => rfl
  have S := Lib.hid (fun (w0 : World) (v : Value) (Q : List (List Vl)) (c : Nat) (hq : Q.length = n) (hc : c ≤ 1000) (he : Even Q c) (h : KeysAt w0 v Q) => (sort_any (vD := .slice none 0 0) (d := []) (stable_all (by rw [hq]; exact hK0)) h ⟨none, 0, rfl, by simp⟩ (by omega) (fun r hr => by rw [he r hr]; exact hc) he).mono (R' := fun e w' => ∃ A c l, e = .returned (.slice A n c) ∧ NatsAt w' (.slice A n c) l ∧ l.Perm (List.range n) ∧ l.Pairwise (TT Q []) ∧ Chg [] w0 w') (fun e w' h => by obtain ⟨A, c, l, h1, h2, h3, h4, h5, _⟩ := h; rw [hq] at h1 h2 h3; exact ⟨A, c, l, h1, h2, h3, h4, h5⟩))
  obtain ⟨AL, cL, ll, rfl⟩ : ∃ A c ll, vL = .slice A ll c := by obtain ⟨A, c, _, h, _⟩ := hL; exact ⟨A, c, _, h⟩
  have HE := Lib.hid hE
  have HN := Lib.hid hn
  clear hL hK hE hn
  go_enter Try.func5, Try.ntmps5
  go_wp2_with (first
    | (go_at_call 9; (with_reducible refine (AW.out _).mono ?_); rintro e w1 ⟨rfl, hC1⟩; have HC1 := Lib.hid hC1; clear hC1)
    | (go_at_call 10; (with_reducible refine (F.out _ HC1.out).mono ?_); rintro e w2 ⟨A2, c2, rfl, ⟨vs, hk2⟩, hC2, hcap⟩; have HKA := Lib.hid hk2; have HC2 := Lib.hid (HC1.out.trans hC2); clear hk2 hC2 HC1))
  generalize hwa : World.alloc _ _ = wa
  obtain ⟨bk, hbk⟩ : ∃ bk, bk = w2.heap.size := ⟨_, rfl⟩
  have HCA : Hid (Chg [] w2 wa) := Lib.hid (by rw [← hwa]; exact (Chg.refl [] w2).alloc _)
  have HBK : Hid (wa.cell? ⟨bk, 0, none⟩ = some (.slice A2 n c2)) := Lib.hid (by rw [← hwa, hbk]; exact cell_one_new _ _ _ 0 _ rfl)
  have HRA := Lib.hid (HKA.out.chg HCA.out)
  have HCW := Lib.hid (HC2.out.trans HCA.out)
  rw [← hbk]
  clear hwa hbk HCA HKA HC2 hcap
  go_loopw [5, 6, 20] (fun va vb i wr => ∃ (j : Nat) (us : List Value), i = .int .i64 j ∧ j ≤ n ∧ Own wr 3 1 va j (nats (List.range j)) ∧ RAt wr vb ((bothK K).take j) us ∧ Chg [] wa wr ∧ (∀ k, va.ownBlock = some k → wa.heap.size ≤ k) ∧ (∀ k, vb.ownBlock = some k → wa.heap.size ≤ k)) (fun _ _ i _ => n - (intOf i).toNat)
  case atStart => exact ⟨0, [], rfl, by omega, ⟨rfl, .inl ⟨rfl, rfl⟩⟩, RAt.nil wa, Chg.refl [] wa, by simp [Value.ownBlock], by simp [Value.ownBlock]⟩
  case round =>
    obtain ⟨j, us, rfl, hj, hO, hR, hC, hVa, hVb⟩ := hrel
    have hol : ((bothK K).take j).length = j := by rw [List.length_take, both_len, ← HN.out]; omega
    obtain ⟨Aa, ca, rfl⟩ := hO.form'
    obtain ⟨Ab, cb, rfl⟩ := hR.row.form'
    have HO := Lib.hid hO
    have HR := Lib.hid hR
    have HC := Lib.hid hC
    have HVA := Lib.hid hVa
    have HVB : Hid (∀ k, (Value.slice Ab j cb).ownBlock = some k → wa.heap.size ≤ k) := Lib.hid (by rw [hol] at hVb; exact hVb)
    have HOL := Lib.hid hol
    rw [hol]
    clear hO hR hC hVa hVb hol
    by_cases hlt : j < n
    · obtain ⟨b, g, cp, r, rfl, hr, hcp, xr, hva⟩ := HRA.out.at_ (j := j) (by rw [← HN.out]; exact hlt) HE.out
      have hji : (j : Int) < (n : Int) := by omega
      have h2 := HE.out r (List.mem_of_getElem? hr)
      have hbt := both_take hr
      obtain ⟨y0, y1, rfl⟩ : ∃ y0 y1, r = [y0, y1] := by
        match r, h2 with
        | [y0, y1], _ => exact ⟨y0, y1, rfl⟩
      have key : ∀ q t u x, [y0, y1][q]? = some x → t < 4 → (cellsV x)[t]? = some u → wa.cell? ⟨g, q * 4 + t, none⟩ = some u := by
        intro q t u x hx ht hu
        have := World.ownsRow.cells hva (g := g) rfl _ _ ((cellsR_get hx ht).trans hu)
        rw [Go.WideShapes.add_plain] at this
        simpa using this
      have HALL : Hid (∀ w', Chg [] wa w' → w'.cell? ⟨bk, 0, none⟩ = some (.slice (some ⟨b, 0, none⟩) n c2) ∧ w'.cell? ⟨b, j, none⟩ = some (.slice (some ⟨g, 0, none⟩) 2 cp) ∧ w'.cell? ⟨g, 0, none⟩ = some (.int .u8 y0.k) ∧ w'.cell? ⟨g, 1, none⟩ = some (.int .i64 y0.i) ∧ w'.cell? ⟨g, 2, none⟩ = some (.string y0.s) ∧ w'.cell? ⟨g, 3, none⟩ = some (.bool y0.b) ∧ w'.cell? ⟨g, 4, none⟩ = some (.int .u8 y1.k) ∧ w'.cell? ⟨g, 5, none⟩ = some (.int .i64 y1.i) ∧ w'.cell? ⟨g, 6, none⟩ = some (.string y1.s) ∧ w'.cell? ⟨g, 7, none⟩ = some (.bool y1.b)) := Lib.hid (fun w' hC => ⟨hC.cell HBK.out (by simp), hC.cell xr (by simp), hC.cell (key 0 0 _ y0 rfl (by omega) rfl) (by simp), hC.cell (key 0 1 _ y0 rfl (by omega) rfl) (by simp), hC.cell (key 0 2 _ y0 rfl (by omega) rfl) (by simp), hC.cell (key 0 3 _ y0 rfl (by omega) rfl) (by simp), hC.cell (key 1 0 _ y1 rfl (by omega) rfl) (by simp), hC.cell (key 1 1 _ y1 rfl (by omega) rfl) (by simp), hC.cell (key 1 2 _ y1 rfl (by omega) rfl) (by simp), hC.cell (key 1 3 _ y1 rfl (by omega) rfl) (by simp)⟩)
      have C1 : Hid (j + 1 ≤ maxLen) := Lib.hid (by unfold maxLen; omega)
      have C2 : Hid ((j + 1) * 8 ≤ 140737488355328) := Lib.hid (by omega)
      have C3 : Hid ((j + 1) * 24 ≤ 140737488355328) := Lib.hid (by omega)
      have HOW := Lib.hid (Own.alloc HO.out (.cells #[.int .i64 j] 3))
      have HSR := Lib.hid (Src1.one (w := wr) (e := 3) (u := .int .i64 j) rfl)
      have HBT := Lib.hid hbt
      clear xr hva key hr h2 hbt
      go_wp2_with (at_builtin; refine wpList_app rfl (.tmp 23) (.tmp 25) 28 rfl 3 1 8 El28 (.slice Aa j ca) j (nats (List.range j)) rfl HOW.out (.slice (some ⟨wr.heap.size, 0, none⟩) 1 1) 1 [.int .i64 j] rfl HSR.out (j + 1) (nats (List.range j) ++ [.int .i64 j]) rfl rfl C1.out C2.out ?_; intro A7 c7 w7 a7; have HA7 := Lib.hid a7; clear a7)
      have HC7 : Hid (Chg [] wa w7) := Lib.hid (by
        have hC7 : Chg (Value.slice Aa j ca).ownBlock.toList wr w7 := (((Chg.refl [] wr).alloc (.cells #[.int .i64 j] 3)).mono (by simp)).trans HA7.out.chg
        refine HC.out.trans' hC7 (fun x hx => .inr ?_)
        rw [Option.mem_toList] at hx
        exact HVA.out x hx)
      have HR7 : Hid (RAt w7 (.slice Ab j cb) ((bothK K).take j) us) := Lib.hid (by
        have h0 := HR.out
        rw [HOL.out] at h0
        have h1 := h0.chg ((Chg.refl [] wr).alloc (.cells #[.int .i64 j] 3))
        have hne : ∀ k, (Value.slice Aa j ca).ownBlock = some k → ∀ {e size n' v xs}, e ≠ 3 → Own (wr.alloc (.cells #[.int .i64 j] 3)) e size v n' xs → v.ownBlock ≠ some k := by
          intro k hk e size n' v xs he ho
          exact HOW.out.apart ho (fun h => he h.symm) hk
        refine ⟨h1.len, h1.row.chg HA7.out.chg (fun k hk hm => ?_), fun q l u hl hu => (h1.inn q l u hl hu).chg HA7.out.chg (fun k hk hm => ?_)⟩
        · rw [Option.mem_toList] at hm; exact hne k hm (by decide) h1.row hk
        · rw [Option.mem_toList] at hm; exact hne k hm (by decide) (h1.inn q l u hl hu) hk)
      go_region_held3 (fun w' => w'.cell? ⟨bk, 0, none⟩ = some (.slice (some ⟨b, 0, none⟩) n c2) ∧ w'.cell? ⟨b, j, none⟩ = some (.slice (some ⟨g, 0, none⟩) 2 cp) ∧ w'.cell? ⟨g, 0, none⟩ = some (.int .u8 y0.k) ∧ w'.cell? ⟨g, 1, none⟩ = some (.int .i64 y0.i) ∧ w'.cell? ⟨g, 2, none⟩ = some (.string y0.s) ∧ w'.cell? ⟨g, 3, none⟩ = some (.bool y0.b) ∧ w'.cell? ⟨g, 4, none⟩ = some (.int .u8 y1.k) ∧ w'.cell? ⟨g, 5, none⟩ = some (.int .i64 y1.i) ∧ w'.cell? ⟨g, 6, none⟩ = some (.string y1.s) ∧ w'.cell? ⟨g, 7, none⟩ = some (.bool y1.b)) (first | with_reducible exact HALL.out _ HC7.out | with_reducible exact HALL.out _ HC7.out.drew | with_reducible exact HALL.out _ (HC7.out.alloc _) | with_reducible exact HALL.out _ (HC7.out.alloc _).drew | with_reducible exact HALL.out _ (HC7.out.drew.alloc _) | with_reducible exact HALL.out _ ((HC7.out.alloc _).alloc _) | with_reducible exact HALL.out _ ((HC7.out.alloc _).alloc _).drew | with_reducible exact HALL.out _ ((HC7.out.drew.alloc _).alloc _) | with_reducible exact HALL.out _ HC8.out | go_keep)
        (first
         | (refine step_app0 rfl (.tmp 27) (.tmp 41) 22 rfl 34 1 24 El22 (.slice Ab j cb) j us (by rfl) (by have h0 := HR7.out.row; rw [HOL.out] at h0; exact h0.chg (by first | exact Chg.refl [] _ | exact (Chg.refl [] _).alloc _ | exact ((Chg.refl [] _).alloc _).drew | exact (Chg.refl [] _).drew.alloc _ | exact ((Chg.refl [] _).alloc _).alloc _ | exact (((Chg.refl [] _).alloc _).alloc _).drew | exact ((Chg.refl [] _).drew.alloc _).alloc _ | exact (Chg.refl [] _).drew) (by simp)) (.slice (some ⟨w7.heap.size + 1, 0, none⟩) 1 1) 1 [.slice (some ⟨w7.heap.size, 0, none⟩) 2 2] (by rfl) (src_one' rfl (by first | exact Chg.refl [] _ | exact (Chg.refl [] _).alloc _ | exact ((Chg.refl [] _).alloc _).drew | exact (Chg.refl [] _).drew.alloc _ | exact ((Chg.refl [] _).alloc _).alloc _ | exact (((Chg.refl [] _).alloc _).alloc _).drew | exact ((Chg.refl [] _).drew.alloc _).alloc _ | exact (Chg.refl [] _).drew) (Chg.refl [] _) (by first | rfl | simp) (by simp)) (j + 1) (us ++ [.slice (some ⟨w7.heap.size, 0, none⟩) 2 2]) rfl rfl C1.out C3.out ?_; intro A8 c8 w8 a8; have HA8 := Lib.hid a8; have HC8 : Hid (Chg [] wa w8) := Lib.hid ((HC7.out.trans (b := _) (by first | exact Chg.refl [] _ | exact (Chg.refl [] _).alloc _ | exact ((Chg.refl [] _).alloc _).drew | exact (Chg.refl [] _).drew.alloc _ | exact ((Chg.refl [] _).alloc _).alloc _ | exact (((Chg.refl [] _).alloc _).alloc _).drew | exact ((Chg.refl [] _).drew.alloc _).alloc _ | exact (Chg.refl [] _).drew)).trans' a8.chg (fun x hx => .inr (HVB.out x (by rwa [Option.mem_toList] at hx)))); have HR8 : Hid (RAt w8 (.slice A8 (j + 1) c8) ((bothK K).take j ++ [[y1, y0]]) (us ++ [.slice (some ⟨w7.heap.size, 0, none⟩) 2 2])) := Lib.hid (RAt.push' a8 (by rw [HOL.out]) HR7.out (by first | exact Chg.refl [] _ | exact (Chg.refl [] _).alloc _ | exact ((Chg.refl [] _).alloc _).drew | exact (Chg.refl [] _).drew.alloc _ | exact ((Chg.refl [] _).alloc _).alloc _ | exact (((Chg.refl [] _).alloc _).alloc _).drew | exact ((Chg.refl [] _).drew.alloc _).alloc _ | exact (Chg.refl [] _).drew) (lit2_at (Y := w7) (by first | exact Chg.refl [] _ | exact (Chg.refl [] _).alloc _ | exact ((Chg.refl [] _).alloc _).drew | exact (Chg.refl [] _).drew.alloc _ | exact ((Chg.refl [] _).alloc _).alloc _ | exact (((Chg.refl [] _).alloc _).alloc _).drew | exact ((Chg.refl [] _).drew.alloc _).alloc _ | exact (Chg.refl [] _).drew) rfl)); clear a8)
         | fail)
      go_wp2_with fail
      go_roundw
      case measure => simp [intOf]; omega
      case rel =>
        refine ⟨j + 1, _, by go_num, by omega, ?_, by rw [HBT.out]; exact HR8.out, HC8.out, ?_, ?_⟩
        · have := own_keep HA8.out (by first | exact Chg.refl [] _ | exact (Chg.refl [] _).alloc _ | exact ((Chg.refl [] _).alloc _).drew | exact (Chg.refl [] _).drew.alloc _ | exact ((Chg.refl [] _).alloc _).alloc _ | exact (((Chg.refl [] _).alloc _).alloc _).drew | exact ((Chg.refl [] _).drew.alloc _).alloc _ | exact (Chg.refl [] _).drew) HA7.out.own HR7.out.row
          rw [nats_app, ← List.range_succ] at this
          exact this
        · intro x hx
          rcases HA7.out.at_ x hx with e | e
          · exact HVA.out x e
          · have := HC.out.size; simp at e; omega
        · intro x hx
          rcases HA8.out.at_ x hx with e | e
          · exact HVB.out x e
          · have := HC7.out.size; simp at e; omega
    · have hjn : j = n := by omega
      subst hjn
      have hKj : (bothK K).take j = bothK K := List.take_of_length_le (by rw [both_len, ← HN.out]; exact Nat.le_refl _)
      have HAL : Hid (NatsAt wr (.slice Aa j ca) (List.range j)) := Lib.hid (by unfold NatsAt; rw [List.length_range]; exact HO.out)
      have HBO : Hid (KeysAt wr (.slice Ab j cb) (bothK K)) := Lib.hid (by have := HR.out.keys; rw [HOL.out, hKj] at this; exact this)
      clear hKj HO HR HOL HVA HVB
      have P0 : Hid (∀ (w0 : World) (vl : Value) (l : List Nat), NatsAt w0 vl l → l.Perm (List.range j) → Chg [] wa w0 → Calls Try.prog 19 #[vl, .int .i64 0, .pointer (some ⟨bk, 0, none⟩)] w0 fun e w' => ∃ A c, e = .returned (.slice A j c) ∧ KeysAt w' (.slice A j c) (pickK K l 0) ∧ Chg [] w0 w') := Lib.hid (fun w0 vl l hl hp hC => by
        have hlen : l.length = j := by rw [hp.length_eq, List.length_range]
        have := pick19 (col := 0) (hC.cell HBK.out (by simp)) HN.out (HRA.out.chg hC) HE.out hl (fun i hi => by rw [← HN.out]; exact List.mem_range.1 (hp.mem_iff.1 hi)) (by omega) (by omega)
        rw [hlen] at this
        exact this)
      have P1 : Hid (∀ (w0 : World) (vl : Value) (l : List Nat), NatsAt w0 vl l → l.Perm (List.range j) → Chg [] wa w0 → Calls Try.prog 19 #[vl, .int .i64 1, .pointer (some ⟨bk, 0, none⟩)] w0 fun e w' => ∃ A c, e = .returned (.slice A j c) ∧ KeysAt w' (.slice A j c) (pickK K l 1) ∧ Chg [] w0 w') := Lib.hid (fun w0 vl l hl hp hC => by
        have hlen : l.length = j := by rw [hp.length_eq, List.length_range]
        have := pick19 (col := 1) (hC.cell HBK.out (by simp)) HN.out (HRA.out.chg hC) HE.out hl (fun i hi => by rw [← HN.out]; exact List.mem_range.1 (hp.mem_iff.1 hi)) (by omega) (by omega)
        rw [hlen] at this
        exact this)
      have HLN : Hid (∀ l : List Nat, l.Perm (List.range j) → l.length = j) := Lib.hid (fun l hp => by rw [hp.length_eq, List.length_range])
      go_wp2_with (first
        | (go_at_call 19; (with_reducible refine (P0.out _ _ _ HAL.out (List.Perm.refl _) HC.out).mono ?_); rintro e w5 ⟨A5, c5, rfl, hk5, hC5⟩; have HK5 := Lib.hid hk5; have HB5 := Lib.hid (HBO.out.chg hC5); have HC5 := Lib.hid (HC.out.trans hC5); clear hk5 hC5 HBO HC HAL)
        | (go_at_call 14; (with_reducible refine (S.out _ _ (pickK K (List.range j) 0) 1 (by rw [pick_len, List.length_range]) (by omega) (pick_even _ _ _) HK5.out).mono ?_); rintro e w6 ⟨A6, c6, l1, rfl, hn6, hp6, hs6, hC6⟩; have HN6 := Lib.hid hn6; have HP6 := Lib.hid hp6; have HS6 := Lib.hid hs6; have HB6 := Lib.hid (HB5.out.chg hC6); have HC6 := Lib.hid (HC5.out.trans hC6); clear hn6 hp6 hs6 hC6 HK5 HB5 HC5)
        | (go_at_call 19; (with_reducible refine (P1.out _ _ _ HN6.out HP6.out HC6.out).mono ?_); rintro e w7 ⟨A7, c7, rfl, hk7, hC7⟩; have HK7 := Lib.hid hk7; have HB7 := Lib.hid (HB6.out.chg hC7); have HN7 := Lib.hid (HN6.out.chg hC7 (by simp)); have HC7 := Lib.hid (HC6.out.trans hC7); clear hk7 hC7 HB6 HN6 HC6)
        | (go_at_call 14; (with_reducible refine (S.out _ _ (pickK K l1 1) 1 (by rw [pick_len, HLN.out l1 HP6.out]) (by omega) (pick_even _ _ _) HK7.out).mono ?_); rintro e w8 ⟨A8, c8, l2, rfl, hn8, hp8, hs8, hC8⟩; have HN8 := Lib.hid hn8; have HP8 := Lib.hid hp8; have HS8 := Lib.hid hs8; have HB8 := Lib.hid (HB7.out.chg hC8); have HN7' := Lib.hid (HN7.out.chg hC8 (by simp)); have HC8 := Lib.hid (HC7.out.trans hC8); clear hn8 hp8 hs8 hC8 HK7 HB7 HN7 HC7))
      have HL1 := Lib.hid (HLN.out l1 HP6.out)
      have HL2 := Lib.hid (HLN.out l2 HP8.out)
      have hlaw := stable_law (K := K) (l1 := l1) (l2 := l2) (by rw [← HN.out]; exact HP6.out) (by rw [← HN.out]; exact HS6.out) (by rw [← HN.out]; exact HP8.out) HS8.out
      obtain ⟨G, hG⟩ : ∃ G, G = l2.map fun i => l1.getD i 0 := ⟨_, rfl⟩
      rw [← hG] at hlaw
      have HLAW := Lib.hid hlaw
      have HGL : Hid (G.length = j) := Lib.hid (by rw [hG, List.length_map, HL2.out])
      have HGQ : Hid (∀ q x y, l2[q]? = some x → l1[x]? = some y → G[q]? = some y) := Lib.hid (fun q x y hx hy => by rw [hG, List.getElem?_map, hx]; show some (l1.getD x 0) = _; rw [getD_of hy])
      clear hlaw hG HS6 HS8 P0 P1
      go_loopw [10, 54] (fun v i wx => ∃ q : Nat, i = .int .i64 q ∧ q ≤ j ∧ Own wx 3 1 v q (nats (G.take q)) ∧ Chg [] w8 wx ∧ (∀ k, v.ownBlock = some k → w8.heap.size ≤ k)) (fun _ i _ => j - (intOf i).toNat)
      case atStart => exact ⟨0, rfl, by omega, ⟨rfl, .inl ⟨rfl, rfl⟩⟩, Chg.refl [] w8, by simp [Value.ownBlock]⟩
      case round =>
        obtain ⟨q, rfl, hq, hO, hCx, hV⟩ := hrel
        obtain ⟨Aq, cq, rfl⟩ := hO.form'
        have HO := Lib.hid hO
        have HCX := Lib.hid hCx
        have HV := Lib.hid hV
        clear hO hCx hV
        by_cases hqj : q < j
        · obtain ⟨x, hx⟩ : ∃ x, l2[q]? = some x := ⟨_, List.getElem?_eq_getElem (by rw [HL2.out]; exact hqj)⟩
          have hxj : x < j := List.mem_range.1 (HP8.out.mem_iff.1 (List.mem_of_getElem? hx))
          obtain ⟨y, hy⟩ : ∃ y, l1[x]? = some y := ⟨_, List.getElem?_eq_getElem (by rw [HL1.out]; exact hxj)⟩
          have hGq := HGQ.out q x y hx hy
          obtain ⟨g2, d2, hv2, x2⟩ := NatsAt.cell HN8.out hx
          obtain ⟨g1, d1, hv1, x1⟩ := NatsAt.cell HN7'.out hy
          injection hv2 with hv21 hv22 hv23
          injection hv1 with hv11 hv12 hv13
          subst hv21 hv23 hv11 hv13
          have z2 := HCX.out.cell x2 (by simp)
          have z1 := HCX.out.cell x1 (by simp)
          have htk : nats (G.take q) ++ [.int .i64 y] = nats (G.take (q + 1)) := by rw [nats_app, List.take_add_one, hGq]; rfl
          have HTK := Lib.hid htk
          have hqi : (q : Int) < (j : Int) := by omega
          have hxi : (x : Int) < (j : Int) := by omega
          have C1 : Hid (q + 1 ≤ maxLen) := Lib.hid (by unfold maxLen; omega)
          have C2 : Hid ((q + 1) * 8 ≤ 140737488355328) := Lib.hid (by omega)
          have HOW := Lib.hid (Own.alloc HO.out (.cells #[.int .i64 y] 3))
          have HSR := Lib.hid (Src1.one (w := wr) (e := 3) (u := .int .i64 y) rfl)
          clear hx hy hGq x2 x1 hv22 hv12 htk
          go_wp2_with (at_builtin; refine wpList_app rfl (.tmp 58) (.tmp 63) 28 rfl 3 1 8 El28 (.slice Aq q cq) q (nats (G.take q)) rfl HOW.out (.slice (some ⟨wr.heap.size, 0, none⟩) 1 1) 1 [.int .i64 y] rfl HSR.out (q + 1) (nats (G.take q) ++ [.int .i64 y]) rfl rfl C1.out C2.out ?_; intro A9 c9 w9 a9; have HA9 := Lib.hid a9; clear a9)
          go_roundw
          case measure => simp [intOf]; omega
          case rel =>
            have hC9 : Chg (Value.slice Aq q cq).ownBlock.toList wr w9 := (((Chg.refl [] wr).alloc (.cells #[.int .i64 y] 3)).mono (by simp)).trans HA9.out.chg
            refine ⟨q + 1, by go_num, by omega, by rw [← HTK.out]; exact HA9.out.own, HCX.out.trans' hC9 (fun z hz => .inr (HV.out z (by rwa [Option.mem_toList] at hz))), fun k hk => ?_⟩
            rcases HA9.out.at_ k hk with e | e
            · exact HV.out k e
            · have := HCX.out.size; simp at e; omega
        · have hqe : q = j := by omega
          subst hqe
          have HG : Hid (NatsAt wr (.slice Aq q cq) G) := Lib.hid (by have := HO.out; rw [List.take_of_length_le (by rw [HGL.out]; exact Nat.le_refl _)] at this; unfold NatsAt; rw [HGL.out]; exact this)
          have HBX := Lib.hid (HB8.out.chg HCX.out)
          go_wp2_with (first
            | (go_at_call 14; (with_reducible refine (S.out _ _ (bothK K) 2 (by rw [both_len, HN.out]) (by omega) (both_even _) HBX.out).mono ?_); rintro e w9 ⟨A9, c9, l3, rfl, hn9, hp9, hs9, hC9⟩; have hll : G = l3 := sorted_unique (fun i j => TT.asymm) (HLAW.out.1.trans (by rw [← HN.out]; exact hp9.symm)) HLAW.out.2 hs9; have HS13 := Lib.hid (same13 (HG.out.chg hC9 (by simp)) hn9 (by rw [HGL.out]; omega)); rw [decide_eq_true hll] at HS13; have HC9 := Lib.hid (HCX.out.trans hC9); clear hn9 hp9 hs9 hC9 hll)
            | (go_at_call 13; (with_reducible refine HS13.out.mono ?_); rintro e w10 ⟨rfl, hC10⟩; have HC10 := Lib.hid (HC9.out.trans hC10); clear hC10))
          go_ret
          exact ⟨rfl, HCW.out.trans (HC8.out.trans HC10.out)⟩
end Go.Proofs.Ytkdhhafoohnlnaa
