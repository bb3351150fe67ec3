/-
  The walk of stable for 20 to 40 rows.
-/
import Derived.Test.YtkdhhafoohnlnaaSym6
namespace Go.Proofs.Ytkdhhafoohnlnaa
open Go.RowKit

section
variable {w wr : World} {g n cap bk bd c : Nat} {K : List (List Vl)} {d : List Bool}
theorem ins_0_20 (hcl : Clo w bk bd K d) (he : Even K c) (hnK : n ≤ K.length) (h20 : 20 ≤ n) (hn : n ≤ 1000) (hS : SS w g n cap (List.range n) wr) :
    Calls Try.prog 39 #[.slice (some ⟨g, 0, none⟩) n cap, .int .i64 0, .int .i64 20, cloV bk bd] wr fun e w' => e = .returned (.tuple #[]) ∧ ∃ p, p.Perm (List.range 20) ∧ p.Pairwise (TT K d) ∧ SS w g n cap (p ++ tail20 n) w' := by
  rw [range_20 h20] at hS
  exact ins39 (a := 0) (b := 20) (A := []) (S := List.range 20) (Z := tail20 n) hcl he hS (fun x hx => by have := List.mem_range.1 hx; omega) List.pairwise_lt_range rfl (by simp) hn
theorem ins_20_n (hcl : Clo w bk bd K d) (he : Even K c) (hnK : n ≤ K.length) (h20 : 20 ≤ n) (hn : n ≤ 1000) {p : List Nat} (hp : p.Perm (List.range 20)) (hS : SS w g n cap (p ++ tail20 n) wr) :
    Calls Try.prog 39 #[.slice (some ⟨g, 0, none⟩) n cap, .int .i64 20, .int .i64 n, cloV bk bd] wr fun e w' => e = .returned (.tuple #[]) ∧ ∃ q, q.Perm (tail20 n) ∧ q.Pairwise (TT K d) ∧ SS w g n cap (p ++ q) w' := by
  have hl : p.length = 20 := by rw [hp.length_eq]; simp
  have h1 := ins39 (a := 20) (b := n) (A := p) (S := tail20 n) (Z := []) hcl he (by simpa using hS) (fun x hx => by have := tail20_mem hx; omega) (tail20_lt n) hl.symm (by rw [tail20_len, hl]; omega) hn
  refine h1.mono ?_
  rintro e w' ⟨rfl, q, h2, h3, h4⟩
  exact ⟨rfl, q, h2, h3, by simpa using h4⟩
theorem ins_n_n (hcl : Clo w bk bd K d) (he : Even K c) (hn : n ≤ 1000) {p : List Nat} (hS : SS w g n cap p wr) :
    Calls Try.prog 39 #[.slice (some ⟨g, 0, none⟩) n cap, .int .i64 n, .int .i64 n, cloV bk bd] wr fun e w' => e = .returned (.tuple #[]) ∧ SS w g n cap p w' := by
  have hl : p.length = n := hS.len
  have h1 := ins39 (a := n) (b := n) (A := p) (S := []) (Z := []) hcl he (by simpa using hS) (by simp) (by simp) hl.symm (by simp [hl]) hn
  refine h1.mono ?_
  rintro e w' ⟨rfl, q, h2, h3, h4⟩
  have hq : q = [] := by simpa using h2
  subst hq
  exact ⟨rfl, by simpa using h4⟩
theorem sym_20 (hcl : Clo w bk bd K d) (he : Even K c) (hnK : n ≤ K.length) (h20 : 20 < n) (hn : n ≤ 1000) {p q : List Nat} (hp : p.Perm (List.range 20)) (hq : q.Perm (tail20 n)) (sp : p.Pairwise (TT K d)) (sq : q.Pairwise (TT K d)) (hS : SS w g n cap (p ++ q) wr) :
    Calls Try.prog 40 #[.slice (some ⟨g, 0, none⟩) n cap, .int .i64 0, .int .i64 20, .int .i64 n, cloV bk bd] wr fun e w' => e = .returned (.tuple #[]) ∧ ∃ r, r.Perm (List.range n) ∧ r.Pairwise (TT K d) ∧ SS w g n cap r w' := by
  have hlp : p.length = 20 := by rw [hp.length_eq]; simp
  have hlq : q.length = n - 20 := by rw [hq.length_eq, tail20_len]
  have h1 := sym_all (p.length + q.length) (a := 0) (m := 20) (b := n) (A := []) (L := p) (R := q) (Z := []) hcl he (by simpa using hS) (two_20 (by omega) hnK hp hq sp sq) (by omega) (by omega) (Nat.le_refl _) rfl (by simp [hlp]) (by simp [hlp, hlq]; omega) hn
  refine h1.mono ?_
  rintro e w' ⟨rfl, r, h2, h3, h4⟩
  refine ⟨rfl, r, ?_, h3, by simpa using h4⟩
  rw [range_20 (n := n) (by omega)]
  exact h2.trans (hp.append hq)
end

set_option maxRecDepth 100000 in
set_option maxHeartbeats 4000000 in
theorem stable_20 : StableOK 20 := by
  intro w wr g cap bk bd c K d hcl he hnK hS
  have I1 := Lib.hid (fun (w0 : World) (hC : Chg [] wr w0) => ins_0_20 hcl he hnK (Nat.le_refl 20) (by omega) (hS.still hC))
  have I2 := Lib.hid (fun (w0 : World) (p : List Nat) (h : SS w g 20 cap p w0) => ins_n_n hcl he (by omega) h)
  clear hcl he hnK hS
  go_enter Try.func36, Try.ntmps36
  go_wp2_with fail
  refine wp_loop_rounds 2 ?_
  rw [rounds_succ]
  go_wp2_with fail
  refine (I1.out _ (Chg.refl [] wr)).mono ?_
  rintro e w1 ⟨rfl, p, hp, sp, h1⟩
  have H1 := Lib.hid (show SS w g 20 cap p w1 by simpa [tail20] using h1)
  have HP := Lib.hid hp
  have HSP := Lib.hid sp
  clear h1 hp sp
  go_wp2_with fail
  rw [rounds_succ]
  go_wp2_with fail
  refine (I2.out _ _ H1.out).mono ?_
  rintro e w2 ⟨rfl, h2⟩
  have H2 := Lib.hid h2
  clear h2
  go_wp2_with fail
  refine wp_loop_rounds 1 ?_
  rw [rounds_succ]
  go_wp2_with fail
  go_end0
  exact ⟨rfl, p, HP.out, HSP.out, H2.out⟩

set_option maxRecDepth 100000 in
set_option maxHeartbeats 4000000 in
theorem stable_mid {n : Nat} (hn1 : 20 < n) (hn2 : n < 40) : StableOK n := by
  intro w wr g cap bk bd c K d hcl he hnK hS
  have I1 := Lib.hid (fun (w0 : World) (hC : Chg [] wr w0) => ins_0_20 hcl he hnK (by omega) (by omega) (hS.still hC))
  have I2 := Lib.hid (fun (w0 : World) (p : List Nat) (hp : p.Perm (List.range 20)) (h : SS w g n cap (p ++ tail20 n) w0) => ins_20_n hcl he hnK (by omega) (by omega) hp h)
  have I3 := Lib.hid (fun (w0 : World) (p q : List Nat) (hp : p.Perm (List.range 20)) (hq : q.Perm (tail20 n)) (sp : p.Pairwise (TT K d)) (sq : q.Pairwise (TT K d)) (h : SS w g n cap (p ++ q) w0) => sym_20 hcl he hnK hn1 (by omega) hp hq sp sq h)
  have d1 : decide ((20 : Int) ≤ (n : Int)) = true := by simp; omega
  have d2 : decide (20 ≤ n) = true := by simp; omega
  have d3 : decide ((40 : Int) ≤ (n : Int)) = false := by simp; omega
  have d4 : decide (40 ≤ n) = false := by simp; omega
  have d5 : decide ((20 : Int) < (n : Int)) = true := by simp; omega
  have d6 : decide (20 < n) = true := by simp; omega
  have d7 : decide ((40 : Int) < (n : Int)) = false := by simp; omega
  have d8 : decide (40 < n) = false := by simp; omega
  clear hcl he hnK hS
  go_enter Try.func36, Try.ntmps36
  go_wp2_with fail
  refine wp_loop_rounds 2 ?_
  rw [rounds_succ]
  go_wp2_with fail
  refine (I1.out _ (Chg.refl [] wr)).mono ?_
  rintro e w1 ⟨rfl, p, hp, sp, h1⟩
  have H1 := Lib.hid h1
  have HP := Lib.hid hp
  have HSP := Lib.hid sp
  clear h1 hp sp
  go_wp2_with fail
  rw [rounds_succ]
  go_wp2_with fail
  refine (I2.out _ _ HP.out H1.out).mono ?_
  rintro e w2 ⟨rfl, q, hq, sq, h2⟩
  have H2 := Lib.hid h2
  have HQ := Lib.hid hq
  have HSQ := Lib.hid sq
  clear h2 hq sq
  go_wp2_with fail
  refine wp_loop_rounds 2 ?_
  rw [rounds_succ]
  go_wp2_with fail
  refine wp_loop_rounds 1 ?_
  rw [rounds_succ]
  go_wp2_with fail
  refine (I3.out _ _ _ HP.out HQ.out HSP.out HSQ.out H2.out).mono ?_
  rintro e w3 ⟨rfl, h3⟩
  have H3 := Lib.hid h3
  clear h3
  go_wp2_with fail
  rw [rounds_succ]
  go_wp2_with fail
  go_end0
  exact ⟨rfl, H3.out⟩

set_option maxRecDepth 100000 in
set_option maxHeartbeats 4000000 in
theorem stable_40 : StableOK 40 := by
  intro w wr g cap bk bd c K d hcl he hnK hS
  have I1 := Lib.hid (fun (w0 : World) (hC : Chg [] wr w0) => ins_0_20 hcl he hnK (by omega) (by omega) (hS.still hC))
  have I2 := Lib.hid (fun (w0 : World) (p : List Nat) (hp : p.Perm (List.range 20)) (h : SS w g 40 cap (p ++ tail20 40) w0) => ins_20_n hcl he hnK (by omega) (by omega) hp h)
  have I4 := Lib.hid (fun (w0 : World) (p : List Nat) (h : SS w g 40 cap p w0) => ins_n_n hcl he (by omega) h)
  have I3 := Lib.hid (fun (w0 : World) (p q : List Nat) (hp : p.Perm (List.range 20)) (hq : q.Perm (tail20 40)) (sp : p.Pairwise (TT K d)) (sq : q.Pairwise (TT K d)) (h : SS w g 40 cap (p ++ q) w0) => sym_20 hcl he hnK (by omega) (by omega) hp hq sp sq h)
  clear hcl he hnK hS
  go_enter Try.func36, Try.ntmps36
  go_wp2_with fail
  refine wp_loop_rounds 3 ?_
  rw [rounds_succ]
  go_wp2_with fail
  refine (I1.out _ (Chg.refl [] wr)).mono ?_
  rintro e w1 ⟨rfl, p, hp, sp, h1⟩
  have H1 := Lib.hid h1
  have HP := Lib.hid hp
  have HSP := Lib.hid sp
  clear h1 hp sp
  go_wp2_with fail
  rw [rounds_succ]
  go_wp2_with fail
  refine (I2.out _ _ HP.out H1.out).mono ?_
  rintro e w2 ⟨rfl, q, hq, sq, h2⟩
  have H2 := Lib.hid h2
  have HQ := Lib.hid hq
  have HSQ := Lib.hid sq
  clear h2 hq sq
  go_wp2_with fail
  rw [rounds_succ]
  go_wp2_with fail
  refine (I4.out _ _ H2.out).mono ?_
  rintro e w3 ⟨rfl, h3⟩
  have H3 := Lib.hid h3
  clear h3
  go_wp2_with fail
  refine wp_loop_rounds 2 ?_
  rw [rounds_succ]
  go_wp2_with fail
  refine wp_loop_rounds 2 ?_
  rw [rounds_succ]
  go_wp2_with fail
  refine (I3.out _ _ _ HP.out HQ.out HSP.out HSQ.out H3.out).mono ?_
  rintro e w4 ⟨rfl, h4⟩
  have H4 := Lib.hid h4
  clear h4
  go_wp2_with fail
  rw [rounds_succ]
  go_wp2_with fail
  rw [rounds_succ]
  go_wp2_with fail
  go_end0
  exact ⟨rfl, H4.out⟩

theorem stable_all {n : Nat} (hn : n ≤ 40) : StableOK n := by
  by_cases h1 : n < 20
  · exact stable_few h1
  · by_cases h2 : n = 20
    · subst h2; exact stable_20
    · by_cases h3 : n < 40
      · exact stable_mid (by omega) h3
      · obtain rfl : n = 40 := by omega
        exact stable_40
end Go.Proofs.Ytkdhhafoohnlnaa
