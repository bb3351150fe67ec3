/-
  The walks of SortStableFunc and of fold.Sort, given stable's.
-/
import Derived.Test.YtkdhhafoohnlnaaSrt3
import Derived.Deep.CutBlock
namespace Go.Proofs.Ytkdhhafoohnlnaa
open Go.RowKit

set_option maxRecDepth 100000 in
set_option maxHeartbeats 4000000 in
theorem sort27 {n : Nat} (hok : StableOK n) {w wr : World} {g cap bk bd c : Nat} {K : List (List Vl)} {d : List Bool} (hcl : Clo w bk bd K d) (he : Even K c) (hnK : n ≤ K.length) (hS : SS w g n cap (List.range n) wr) :
    Calls Try.prog 27 #[.slice (some ⟨g, 0, none⟩) n cap, cloV bk bd] wr fun e w' => e = .returned (.tuple #[]) ∧ ∃ p, p.Perm (List.range n) ∧ p.Pairwise (TT K d) ∧ SS w g n cap p w' := by
  have I := Lib.hid (fun (w0 : World) (hC : Chg [] wr w0) => hok hcl he hnK (hS.still hC))
  clear hcl he hnK hS hok
  go_enter Try.func27, Try.ntmps27
  go_wp2_with (first | (go_at_call 36; (with_reducible refine (I.out _ (Chg.refl [] wr)).mono ?_); rintro e w2 ⟨rfl, h2⟩; have H2 := Lib.hid h2; clear h2))
  go_end0
  exact ⟨rfl, H2.out⟩

set_option maxRecDepth 100000 in
set_option maxHeartbeats 4000000 in
theorem ins39_nil {wr : World} {f : Value} : Calls Try.prog 39 #[.slice none 0 0, .int .i64 0, .int .i64 0, f] wr fun e w' => e = .returned (.tuple #[]) ∧ Chg [] wr w' := by
  go_enter Try.func39, Try.ntmps39
  go_wp2_with fail
  refine wp_loop_rounds 1 ?_
  rw [rounds_succ]
  go_wp2_with fail
  go_end0
  exact ⟨rfl, Chg.refl [] wr⟩
set_option maxRecDepth 100000 in
set_option maxHeartbeats 4000000 in
theorem stable_nil {wr : World} {f : Value} : Calls Try.prog 36 #[.slice none 0 0, .int .i64 0, f] wr fun e w' => e = .returned (.tuple #[]) ∧ Chg [] wr w' := by
  have I := Lib.hid (fun w0 : World => ins39_nil (wr := w0) (f := f))
  go_enter Try.func36, Try.ntmps36
  go_wp2_with fail
  refine wp_loop_rounds 1 ?_
  rw [rounds_succ]
  go_wp2_with fail
  refine (I.out _).mono ?_
  rintro e w1 ⟨rfl, h1⟩
  have H1 := Lib.hid h1
  clear h1
  go_wp2_with fail
  refine wp_loop_rounds 1 ?_
  rw [rounds_succ]
  go_wp2_with fail
  go_end0
  exact ⟨rfl, H1.out⟩
set_option maxRecDepth 100000 in
set_option maxHeartbeats 4000000 in
theorem sort27_nil {wr : World} {f : Value} : Calls Try.prog 27 #[.slice none 0 0, f] wr fun e w' => e = .returned (.tuple #[]) ∧ Chg [] wr w' := by
  have I := Lib.hid (fun w0 : World => stable_nil (wr := w0) (f := f))
  go_enter Try.func27, Try.ntmps27
  go_wp2_with (first | (go_at_call 36; (with_reducible refine (I.out _).mono ?_); rintro e w2 ⟨rfl, h2⟩; have H2 := Lib.hid h2; clear h2))
  go_end0
  exact ⟨rfl, H2.out⟩

/-- What a Sort answers. -/
def SortOf (w : World) (K : List (List Vl)) (d : List Bool) (e : Ending) (w' : World) : Prop :=
  ∃ A c l, e = .returned (.slice A K.length c) ∧ NatsAt w' (.slice A K.length c) l ∧ l.Perm (List.range K.length) ∧ l.Pairwise (TT K d) ∧ Chg [] w w' ∧ ∀ k, (Value.slice A K.length c).ownBlock = some k → w.heap.size ≤ k

set_option maxRecDepth 100000 in
set_option maxHeartbeats 8000000 in
theorem sort_any {w : World} {vK vD : Value} {K : List (List Vl)} {d : List Bool} {c : Nat} (hok : StableOK K.length) (hK : KeysAt w vK K) (hD : BoolAt w vD d) (hKl : K.length ≤ 1000) (hlen : ∀ r, r ∈ K → r.length ≤ 1000) (he : Even K c) :
    Calls Try.prog 14 #[vK, vD] w fun e w' => SortOf w K d e w' := by
  obtain ⟨AK, cK, hvK⟩ : ∃ A c, vK = .slice A K.length c := by obtain ⟨A, c, _, h, _⟩ := hK; exact ⟨A, c, h⟩
  obtain ⟨AD, cD, hvD⟩ : ∃ A c, vD = .slice A d.length c := by obtain ⟨A, c, h, _⟩ := hD; exact ⟨A, c, h⟩
  have hmf : ∀ (fn : Fn) (first cap : Array Value) (w : World), (Instr.makeFunc fn first cap).run Try.prog w = .ok (.func fn first cap) w := fun _ _ _ _ => rfl
  obtain ⟨n, hn⟩ : ∃ n, n = K.length := ⟨_, rfl⟩
  obtain ⟨ld, hld⟩ : ∃ n, n = d.length := ⟨_, rfl⟩
  unfold SortOf
  rw [← hn] at hvK hok hKl ⊢
  rw [← hld] at hvD
  subst hvK hvD
  have HK := Lib.hid hK
  have HD := Lib.hid hD
  have HN := Lib.hid hn
  have HLEN := Lib.hid hlen
  have HE := Lib.hid he
  have HOK := @Lib.hid (StableOK n) hok
  clear hK hD hn hld hlen he hok
  go_enter Try.func14, Try.ntmps14
  go_wp2_with fail
  obtain ⟨bk, hbk⟩ : ∃ bk, bk = w.heap.size := ⟨_, rfl⟩
  generalize hwa : World.alloc (World.alloc _ _) _ = wa
  have HXA : Hid (wa.cell? ⟨bk, 0, none⟩ = some (.slice AK n cK)) := Lib.hid (by
    rw [← hwa, hbk, cell_of_row _ _ _ _ _ _ ((Below.heap_alloc _ _ _ (by simp)).trans (heap_alloc_new w _))]; rfl)
  have HXD : Hid (wa.cell? ⟨bk + 1, 0, none⟩ = some (.slice AD ld cD)) := Lib.hid (by
    rw [← hwa, hbk, show w.heap.size + 1 = (w.alloc (.cells #[.slice AK n cK] 22)).heap.size by simp, cell_of_row _ _ _ _ _ _ (heap_alloc_new _ _)]; rfl)
  have HCA : Hid (Chg [] w wa) := Lib.hid (by rw [← hwa]; exact ((Chg.refl [] w).alloc _).alloc _)
  have HCLO := Lib.hid (Clo.of HXA.out HXD.out (HK.out.chg HCA.out) (HD.out.chg HCA.out) HLEN.out)
  rw [← hbk]
  clear hwa hbk HXA HXD
  go_loopw [5, 9] (fun v i wr => ∃ j : Nat, i = .int .i64 j ∧ j ≤ n ∧ Own wr 3 1 v j (nats (List.range j)) ∧ Chg [] wa wr ∧ (∀ k, v.ownBlock = some k → wa.heap.size ≤ k) ∧ (j = 0 → v = .slice none 0 0)) (fun _ i _ => n - (intOf i).toNat)
  case atStart => exact ⟨0, rfl, by omega, ⟨rfl, .inl ⟨rfl, rfl⟩⟩, Chg.refl [] wa, by simp [Value.ownBlock], fun _ => rfl⟩
  case round =>
    obtain ⟨j, rfl, hj, hO, hCr, hv, hz⟩ := hrel
    obtain ⟨A0, c0, rfl⟩ := hO.form'
    have HO := Lib.hid hO
    have HCR := Lib.hid hCr
    have HV := Lib.hid hv
    clear hO hCr hv
    by_cases hlt : j < n
    · have hji : (j : Int) < (n : Int) := by omega
      have C1 : Hid (j + 1 ≤ maxLen) := Lib.hid (by unfold maxLen; omega)
      have C2 : Hid ((j + 1) * 8 ≤ 140737488355328) := Lib.hid (by omega)
      have HOW := Lib.hid (Own.alloc HO.out (.cells #[.int .i64 j] 3))
      have HSR := Lib.hid (Src1.one (w := wr) (e := 3) (u := .int .i64 j) rfl)
      go_wp2_with (at_builtin; refine wpList_app rfl (.tmp 12) (.tmp 14) 28 rfl 3 1 8 El28 (.slice A0 j c0) j (nats (List.range j)) rfl HOW.out (.slice (some ⟨wr.heap.size, 0, none⟩) 1 1) 1 [.int .i64 j] rfl HSR.out (j + 1) (nats (List.range j) ++ [.int .i64 j]) rfl rfl C1.out C2.out ?_; intro A7 c7 w7 a7; have HA7 := Lib.hid a7; clear a7)
      go_roundw
      case measure => simp [intOf]; omega
      case rel =>
        have ha := HA7.out
        have hC7 : Chg (Value.slice A0 j c0).ownBlock.toList wr w7 := (((Chg.refl [] wr).alloc (.cells #[.int .i64 j] 3)).mono (by simp)).trans ha.chg
        refine ⟨j + 1, by go_num, by omega, ?_, ?_, ?_, by intro h; omega⟩
        · have := ha.own
          rw [nats_app, ← List.range_succ] at this
          exact this
        · refine HCR.out.trans' hC7 (fun x hx => .inr ?_)
          rw [Option.mem_toList] at hx
          exact HV.out x hx
        · intro x hx
          rcases ha.at_ x hx with e | e
          · exact HV.out x e
          · have := HCR.out.size; simp at e; omega
    · have hjn : j = n := by omega
      subst hjn
      rcases Nat.eq_zero_or_pos j with h0 | h0
      · subst h0
        obtain ⟨rfl, rfl⟩ : A0 = none ∧ c0 = 0 := by have := hz rfl; injection this with h1 h2 h3; exact ⟨h1, h3⟩
        have I := Lib.hid (fun (w0 : World) (f : Value) => sort27_nil (wr := w0) (f := f))
        go_wp2_with (first | (go_at_call 27; (with_reducible refine (I.out _ _).mono ?_); rintro e w2 ⟨rfl, h2⟩; have H2 := Lib.hid h2; clear h2))
        go_ret
        refine ⟨_, _, [], rfl, ⟨rfl, .inl ⟨rfl, rfl⟩⟩, by simp, by simp, HCA.out.trans (HCR.out.trans H2.out), by simp [Value.ownBlock]⟩
      · obtain ⟨g, rfl⟩ : ∃ g, A0 = some ⟨g, 0, none⟩ := by
          rcases HO.out.2 with ⟨h, h1⟩ | ⟨g', cap', cur, he, _⟩
          · omega
          · injection he with he1; exact ⟨g', he1⟩
        have hS : SS wa g j c0 (List.range j) wr := ⟨HO.out, List.length_range, HCR.out.below (Nat.le_refl _) (by simp), HV.out g rfl⟩
        have I := Lib.hid (fun (w0 : World) (hC : Chg [] wr w0) => sort27 HOK.out HCLO.out HE.out (by have := HN.out; omega) (hS.still hC))
        clear hS
        go_wp2_with (first | (go_at_call 27; (with_reducible refine (I.out _ (by first | exact Chg.refl [] _ | exact (Chg.refl [] _).drew)).mono ?_); rintro e w2 ⟨rfl, h2⟩; have H2 := Lib.hid h2; clear h2))
        go_ret
        obtain ⟨p, hp1, hp2, hp3⟩ := H2.out
        refine ⟨_, _, p, rfl, ?_, hp1, hp2, ?_, ?_⟩
        · have := hp3.own
          unfold NatsAt
          rw [hp3.len]
          exact this
        · exact HCA.out.trans (Chg.of_below hp3.bel)
        · intro k hk
          injection hk with hk
          subst hk
          show w.heap.size ≤ g
          have := hp3.ge
          have := HCA.out.size
          omega
end Go.Proofs.Ytkdhhafoohnlnaa
