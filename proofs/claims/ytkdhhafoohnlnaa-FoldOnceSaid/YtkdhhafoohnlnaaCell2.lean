/-
  The walks of package cell: order, Less, Same.
-/
import Derived.Test.YtkdhhafoohnlnaaCell1
namespace Go.Proofs.Ytkdhhafoohnlnaa
open Go.RowKit

theorem cmpI_ne {a b : Int} (h : a ≠ b) : (cmpI a b != 0) = true := by
  unfold cmpI
  split
  · rfl
  · split
    · rfl
    · omega
theorem lex_cons (a b : Int) (x y : List Int) : lexL (a :: x) (b :: y) = (decide (a < b) || (decide (a = b) && lexL x y)) := rfl
theorem vkey_head (v : Vl) : ∃ x, vkey v = rankV v.k :: x := by
  unfold vkey rankV
  by_cases h3 : v.k = 3
  · rw [if_pos h3, if_pos h3]; exact ⟨_, rfl⟩
  · rw [if_neg h3, if_neg h3]
    by_cases h1 : v.k = 1
    · rw [if_pos h1, if_pos h1]; exact ⟨_, rfl⟩
    · rw [if_neg h1, if_neg h1]
      by_cases h2 : v.k = 2
      · rw [if_pos h2, if_pos h2]; exact ⟨_, rfl⟩
      · rw [if_neg h2, if_neg h2]; exact ⟨_, rfl⟩
theorem ord_ranks {a b : Vl} (h : rankV a.k ≠ rankV b.k) : ordV a b = cmpI (rankV a.k) (rankV b.k) := by
  obtain ⟨x, hx⟩ := vkey_head a
  obtain ⟨y, hy⟩ := vkey_head b
  unfold ordV lessV cmpI
  rw [hx, hy, lex_cons, lex_cons]
  by_cases h1 : rankV a.k < rankV b.k
  · rw [if_pos h1]; simp [h1]
  · rw [if_neg h1]
    have h2 : rankV b.k < rankV a.k := by omega
    rw [if_pos h2]
    have h3 : ¬ rankV a.k = rankV b.k := h
    simp [h1, h2, h3]
theorem cmpI_self (a : Int) : cmpI a a = 0 := by unfold cmpI; simp
theorem rank_kinds {a b : Nat} (h : rankV a = rankV b) : (a = 3 ∧ b = 3) ∨ (a = 1 ∧ b = 1) ∨ (a = 2 ∧ b = 2) ∨ ((a ≠ 1 ∧ a ≠ 2 ∧ a ≠ 3) ∧ (b ≠ 1 ∧ b ≠ 2 ∧ b ≠ 3)) := by
  unfold rankV at h
  by_cases a3 : a = 3 <;> by_cases a1 : a = 1 <;> by_cases a2 : a = 2 <;> by_cases b3 : b = 3 <;> by_cases b1 : b = 1 <;> by_cases b2 : b = 2 <;> simp_all
theorem ord_int (i j : Int) (s t : ByteArray) (p q : Bool) : ordV ⟨1, i, s, p⟩ ⟨1, j, t, q⟩ = cmpI i j := by
  unfold ordV lessV cmpI vkey
  simp [lexL]
theorem ord_text (i j : Int) (s t : ByteArray) (p q : Bool) : ordV ⟨2, i, s, p⟩ ⟨2, j, t, q⟩ = cmpS s t := by
  unfold ordV lessV cmpS vkey
  simp [lexL]
theorem ord_bool (i j : Int) (s t : ByteArray) (p q : Bool) : ordV ⟨3, i, s, p⟩ ⟨3, j, t, q⟩ = cmpI (bitV p) (bitV q) := by
  cases p <;> cases q <;> rfl
theorem ord_null {a b : Vl} (ha : a.k ≠ 1 ∧ a.k ≠ 2 ∧ a.k ≠ 3) (hb : b.k ≠ 1 ∧ b.k ≠ 2 ∧ b.k ≠ 3) : ordV a b = 0 := by
  unfold ordV lessV vkey
  simp [ha.1, ha.2.1, ha.2.2, hb.1, hb.2.1, hb.2.2, lexL]

theorem four {w : World} {g : Nat} {a b c d : Value} (h : w.heap[g]? = some (.cells #[a, b, c, d] 39 (0, 0))) : w.cell? ⟨g, 0, none⟩ = some a ∧ w.cell? ⟨g, 1, none⟩ = some b ∧ w.cell? ⟨g, 2, none⟩ = some c ∧ w.cell? ⟨g, 3, none⟩ = some d :=
  ⟨by rw [cell_of_row w g 0 _ _ _ h]; rfl, by rw [cell_of_row w g 1 _ _ _ h]; rfl, by rw [cell_of_row w g 2 _ _ _ h]; rfl, by rw [cell_of_row w g 3 _ _ _ h]; rfl⟩

theorem open_int' (i : Int) (s : ByteArray) (b : Bool) (w : World) : Calls Try.prog 43 #[.agg #[.int .u8 1, .int .i64 i, .string s, .bool b]] w fun e w' => e = .returned (.iface 2 (.int .i64 i)) ∧ Chg [] w w' := open_any ⟨1, i, s, b⟩ w
theorem open_text (i : Int) (s : ByteArray) (b : Bool) (w : World) : Calls Try.prog 43 #[.agg #[.int .u8 2, .int .i64 i, .string s, .bool b]] w fun e w' => e = .returned (.iface 9 (.string s)) ∧ Chg [] w w' := open_any ⟨2, i, s, b⟩ w
theorem open_bool' (i : Int) (s : ByteArray) (b : Bool) (w : World) : Calls Try.prog 43 #[.agg #[.int .u8 3, .int .i64 i, .string s, .bool b]] w fun e w' => e = .returned (.iface 4 (.bool b)) ∧ Chg [] w w' := open_any ⟨3, i, s, b⟩ w
theorem open_null (k : Nat) (i : Int) (s : ByteArray) (b : Bool) (w : World) (h : k ≠ 1 ∧ k ≠ 2 ∧ k ≠ 3) : Calls Try.prog 43 #[.agg #[.int .u8 k, .int .i64 i, .string s, .bool b]] w fun e w' => e = .returned .nilIface ∧ Chg [] w w' := by
  have := open_any ⟨k, i, s, b⟩ w
  unfold openV at this
  rw [if_neg h.1, if_neg h.2.1, if_neg h.2.2] at this
  exact this

set_option maxRecDepth 100000 in
set_option maxHeartbeats 1000000 in
theorem order_diff (a b : Vl) (w : World) (hr : rankV a.k ≠ rankV b.k) : Calls Try.prog 37 #[a.val, b.val] w fun e w' => e = .returned (.int .i64 (ordV a b)) ∧ Chg [] w w' := by
  rw [ord_ranks hr]
  obtain ⟨ka, ia, sa, ba⟩ := a
  obtain ⟨kb, ib, sb, bb⟩ := b
  have hne := cmpI_ne hr
  unfold Vl.val at *
  go_enter Try.func37, Try.ntmps37
  go_wp2_with fail
  go_quiet ((first | (go_at_call 42; exact quiet_here (rank_any _ _)) | (go_at_call 41; exact quiet_here (cmp_int _ _ _))))
  go_wp2_with fail
  go_ret
  exact ⟨rfl, (((Chg.refl [] w).alloc _).alloc _).drewN _⟩
theorem ta_int (i : Int) (w : World) : (Instr.typeAssert (.iface 2 (.int .i64 i)) 20 2 true).run Try.prog w = .ok (.tuple #[.int .i64 i, .bool true]) w := by kernel_rfl
theorem ta_int1 (i : Int) (w : World) : (Instr.typeAssert (.iface 2 (.int .i64 i)) 20 2 false).run Try.prog w = .ok (.int .i64 i) w := by kernel_rfl
theorem ta_text0 (s : ByteArray) (w : World) : (Instr.typeAssert (.iface 9 (.string s)) 20 2 true).run Try.prog w = .ok (.tuple #[.int .i64 0, .bool false]) w := by kernel_rfl
theorem ta_text (s : ByteArray) (w : World) : (Instr.typeAssert (.iface 9 (.string s)) 20 9 true).run Try.prog w = .ok (.tuple #[.string s, .bool true]) w := by kernel_rfl
theorem ta_text1 (s : ByteArray) (w : World) : (Instr.typeAssert (.iface 9 (.string s)) 20 9 false).run Try.prog w = .ok (.string s) w := by kernel_rfl
theorem ta_bool0 (s : Bool) (w : World) : (Instr.typeAssert (.iface 4 (.bool s)) 20 2 true).run Try.prog w = .ok (.tuple #[.int .i64 0, .bool false]) w := by kernel_rfl
theorem ta_bool9 (s : Bool) (w : World) : (Instr.typeAssert (.iface 4 (.bool s)) 20 9 true).run Try.prog w = .ok (.tuple #[.string ⟨#[]⟩, .bool false]) w := by kernel_rfl
theorem ta_bool (s : Bool) (w : World) : (Instr.typeAssert (.iface 4 (.bool s)) 20 4 true).run Try.prog w = .ok (.tuple #[.bool s, .bool true]) w := by kernel_rfl
theorem ta_bool1 (s : Bool) (w : World) : (Instr.typeAssert (.iface 4 (.bool s)) 20 4 false).run Try.prog w = .ok (.bool s) w := by kernel_rfl
theorem ta_nil2 (w : World) : (Instr.typeAssert .nilIface 20 2 true).run Try.prog w = .ok (.tuple #[.int .i64 0, .bool false]) w := by kernel_rfl
theorem ta_nil9 (w : World) : (Instr.typeAssert .nilIface 20 9 true).run Try.prog w = .ok (.tuple #[.string ⟨#[]⟩, .bool false]) w := by kernel_rfl
theorem ta_nil4 (w : World) : (Instr.typeAssert .nilIface 20 4 true).run Try.prog w = .ok (.tuple #[.bool false, .bool false]) w := by kernel_rfl

def OrdOf (a b : Vl) (w : World) (e : Ending) (w' : World) : Prop := e = .returned (.int .i64 (ordV a b)) ∧ Chg [] w w'
set_option maxRecDepth 100000 in
set_option maxHeartbeats 1000000 in
theorem order_int (ia ib : Int) (sa sb : ByteArray) (ba bb : Bool) (w : World) : Calls Try.prog 37 #[.agg #[.int .u8 1, .int .i64 ia, .string sa, .bool ba], .agg #[.int .u8 1, .int .i64 ib, .string sb, .bool bb]] w fun e w' => e = .returned (.int .i64 (cmpI ia ib)) ∧ Chg [] w w' := by
  have hz : (cmpI (rankV 1) (rankV 1) != 0) = false := by rw [cmpI_self]; rfl
  have t1 := ta_int ia
  have t2 := ta_int1 ib
  go_enter Try.func37, Try.ntmps37
  go_wp2_with fail
  go_quiet ((first | (go_at_call 42; exact quiet_here (rank_any 1 _)) | (go_at_call 41; exact quiet_here (cmp_int _ _ _))))
  go_wp2_with fail
  refine (open_int' _ _ _ _).mono ?_
  rintro e w1 ⟨rfl, hC1⟩
  have y0 := hC1.cell (p := ⟨w.heap.size + 1, 0, none⟩) (u := .int .u8 1) (by go_simp) (by simp)
  have y1 := hC1.cell (p := ⟨w.heap.size + 1, 1, none⟩) (u := .int .i64 ib) (by go_simp) (by simp)
  have y2 := hC1.cell (p := ⟨w.heap.size + 1, 2, none⟩) (u := .string sb) (by go_simp) (by simp)
  have y3 := hC1.cell (p := ⟨w.heap.size + 1, 3, none⟩) (u := .bool bb) (by go_simp) (by simp)
  have HC1 := Lib.hid hC1
  clear hC1
  go_wp2_with (first | (go_at_call 44; refine (cmp_i64 _ _ _).mono ?_; rintro e w3 ⟨rfl, rfl⟩) | (go_at_call 43; refine (open_int' _ _ _ _).mono ?_; rintro e w2 ⟨rfl, hC2⟩; have HC2 := Lib.hid hC2; clear hC2))
  go_ret
  exact ⟨rfl, ((((Chg.refl [] w).alloc _).alloc _).drewN _).trans (HC1.out.trans HC2.out)⟩
set_option maxRecDepth 100000 in
set_option maxHeartbeats 1000000 in
theorem order_text (ia ib : Int) (sa sb : ByteArray) (ba bb : Bool) (w : World) : Calls Try.prog 37 #[.agg #[.int .u8 2, .int .i64 ia, .string sa, .bool ba], .agg #[.int .u8 2, .int .i64 ib, .string sb, .bool bb]] w fun e w' => e = .returned (.int .i64 (cmpS sa sb)) ∧ Chg [] w w' := by
  have hz : (cmpI (rankV 2) (rankV 2) != 0) = false := by rw [cmpI_self]; rfl
  have t0 := ta_text0 sa
  have t1 := ta_text sa
  have t2 := ta_text1 sb
  go_enter Try.func37, Try.ntmps37
  go_wp2_with fail
  go_quiet ((first | (go_at_call 42; exact quiet_here (rank_any 2 _)) | (go_at_call 41; exact quiet_here (cmp_int _ _ _))))
  go_wp2_with fail
  refine (open_text _ _ _ _).mono ?_
  rintro e w1 ⟨rfl, hC1⟩
  have y0 := hC1.cell (p := ⟨w.heap.size + 1, 0, none⟩) (u := .int .u8 2) (by go_simp) (by simp)
  have y1 := hC1.cell (p := ⟨w.heap.size + 1, 1, none⟩) (u := .int .i64 ib) (by go_simp) (by simp)
  have y2 := hC1.cell (p := ⟨w.heap.size + 1, 2, none⟩) (u := .string sb) (by go_simp) (by simp)
  have y3 := hC1.cell (p := ⟨w.heap.size + 1, 3, none⟩) (u := .bool bb) (by go_simp) (by simp)
  have HC1 := Lib.hid hC1
  clear hC1
  go_wp2_with (first | (go_at_call 45; refine (cmp_str _ _ _).mono ?_; rintro e w3 ⟨rfl, rfl⟩) | (go_at_call 43; refine (open_text _ _ _ _).mono ?_; rintro e w2 ⟨rfl, hC2⟩; have HC2 := Lib.hid hC2; clear hC2))
  go_ret
  exact ⟨rfl, ((((Chg.refl [] w).alloc _).alloc _).drewN _).trans (HC1.out.trans HC2.out)⟩
set_option maxRecDepth 100000 in
set_option maxHeartbeats 1000000 in
theorem order_null (ka kb : Nat) (ia ib : Int) (sa sb : ByteArray) (ba bb : Bool) (w : World) (hka : ka ≠ 1 ∧ ka ≠ 2 ∧ ka ≠ 3) (hkb : kb ≠ 1 ∧ kb ≠ 2 ∧ kb ≠ 3) : Calls Try.prog 37 #[.agg #[.int .u8 ka, .int .i64 ia, .string sa, .bool ba], .agg #[.int .u8 kb, .int .i64 ib, .string sb, .bool bb]] w fun e w' => e = .returned (.int .i64 0) ∧ Chg [] w w' := by
  obtain ⟨z, hz0⟩ : ∃ z : Int, z = 0 := ⟨0, rfl⟩
  have ra : rankV ka = z := by unfold rankV; rw [if_neg hka.2.2, if_neg hka.1, if_neg hka.2.1, hz0]
  have rb : rankV kb = z := by unfold rankV; rw [if_neg hkb.2.2, if_neg hkb.1, if_neg hkb.2.1, hz0]
  have RAB := Lib.hid (fun (k : Nat) (h : k = ka ∨ k = kb) (w : World) => show Calls Try.prog 42 #[.int .u8 k] w fun e w' => e = .returned (.int .i64 z) ∧ w = w' by
    have := rank_any k w
    rwa [show rankV k = z by rcases h with rfl | rfl <;> assumption] at this)
  have hz : (cmpI z z != 0) = false := by rw [cmpI_self]; rfl
  have t0 := ta_nil2
  have t1 := ta_nil9
  have t2 := ta_nil4
  have HA := Lib.hid hka
  clear ra rb hka hkb hz0
  go_enter Try.func37, Try.ntmps37
  go_wp2_with fail
  go_quiet ((first | (go_at_call 42; exact quiet_here (RAB.out _ (by first | exact .inl rfl | exact .inr rfl) _)) | (go_at_call 41; exact quiet_here (cmp_int _ _ _))))
  go_wp2_with fail
  refine (open_null _ _ _ _ _ HA.out).mono ?_
  rintro e w1 ⟨rfl, hC1⟩
  have HC1 := Lib.hid hC1
  clear hC1
  go_wp2_with fail
  go_ret
  exact ⟨rfl, ((((Chg.refl [] w).alloc _).alloc _).drewN _).trans HC1.out⟩
set_option maxRecDepth 100000 in
set_option maxHeartbeats 1000000 in
theorem order_bool (ia ib : Int) (sa sb : ByteArray) (ba bb : Bool) (w : World) : Calls Try.prog 37 #[.agg #[.int .u8 3, .int .i64 ia, .string sa, .bool ba], .agg #[.int .u8 3, .int .i64 ib, .string sb, .bool bb]] w fun e w' => e = .returned (.int .i64 (cmpI (bitV ba) (bitV bb))) ∧ Chg [] w w' := by
  have hz : (cmpI (rankV 3) (rankV 3) != 0) = false := by rw [cmpI_self]; rfl
  have t0 := ta_bool0 ba
  have t1 := ta_bool9 ba
  have t3 := ta_bool ba
  have t2 := ta_bool1 bb
  go_enter Try.func37, Try.ntmps37
  go_wp2_with fail
  go_quiet ((first | (go_at_call 42; exact quiet_here (rank_any 3 _)) | (go_at_call 41; exact quiet_here (cmp_int _ _ _))))
  go_wp2_with fail
  refine (open_bool' _ _ _ _).mono ?_
  rintro e w1 ⟨rfl, hC1⟩
  have y0 := hC1.cell (p := ⟨w.heap.size + 1, 0, none⟩) (u := .int .u8 3) (by go_simp) (by simp)
  have y1 := hC1.cell (p := ⟨w.heap.size + 1, 1, none⟩) (u := .int .i64 ib) (by go_simp) (by simp)
  have y2 := hC1.cell (p := ⟨w.heap.size + 1, 2, none⟩) (u := .string sb) (by go_simp) (by simp)
  have y3 := hC1.cell (p := ⟨w.heap.size + 1, 3, none⟩) (u := .bool bb) (by go_simp) (by simp)
  have HC1 := Lib.hid hC1
  clear hC1
  go_wp2_with fail
  go_region_held3 (fun w' => w'.cell? ⟨w.heap.size + 1, 0, none⟩ = some (.int .u8 3) ∧ w'.cell? ⟨w.heap.size + 1, 1, none⟩ = some (.int .i64 ib) ∧ w'.cell? ⟨w.heap.size + 1, 2, none⟩ = some (.string sb) ∧ w'.cell? ⟨w.heap.size + 1, 3, none⟩ = some (.bool bb)) (first | with_reducible exact ⟨y0, y1, y2, y3⟩ | with_reducible exact ⟨x0, x1, x2, x3⟩ | go_keep)
    (first
     | (go_at_call 46; refine (bit_any _ _).mono ?_; rintro e w' ⟨rfl, rfl⟩)
     | (go_at_call 41; refine (cmp_int _ _ _).mono ?_; rintro e w' ⟨rfl, rfl⟩)
     | (go_at_call 43; refine (open_bool' _ _ _ _).mono ?_; rintro e w2 ⟨rfl, hC2⟩; have x0 := hC2.cell (p := ⟨w.heap.size + 1, 0, none⟩) (by exact y0) (by simp); have x1 := hC2.cell (p := ⟨w.heap.size + 1, 1, none⟩) (by exact y1) (by simp); have x2 := hC2.cell (p := ⟨w.heap.size + 1, 2, none⟩) (by exact y2) (by simp); have x3 := hC2.cell (p := ⟨w.heap.size + 1, 3, none⟩) (by exact y3) (by simp); have HC2 := Lib.hid hC2; clear hC2))
  go_wp2_with fail
  go_ret
  exact ⟨rfl, ((((Chg.refl [] w).alloc _).alloc _).drewN _).trans (HC1.out.trans ((Chg.refl [] w1).same.trans HC2.out))⟩
theorem order_any (a b : Vl) (w : World) : Calls Try.prog 37 #[a.val, b.val] w fun e w' => e = .returned (.int .i64 (ordV a b)) ∧ Chg [] w w' := by
  by_cases hr : rankV a.k = rankV b.k
  · obtain ⟨ka, ia, sa, ba⟩ := a
    obtain ⟨kb, ib, sb, bb⟩ := b
    rcases rank_kinds hr with ⟨rfl, rfl⟩ | ⟨rfl, rfl⟩ | ⟨rfl, rfl⟩ | ⟨hka, hkb⟩
    · rw [ord_bool]; exact order_bool _ _ _ _ _ _ _
    · rw [ord_int]; exact order_int _ _ _ _ _ _ _
    · rw [ord_text]; exact order_text _ _ _ _ _ _ _
    · rw [ord_null hka hkb]; exact order_null _ _ _ _ _ _ _ _ _ hka hkb
  · exact order_diff a b w hr
end Go.Proofs.Ytkdhhafoohnlnaa
