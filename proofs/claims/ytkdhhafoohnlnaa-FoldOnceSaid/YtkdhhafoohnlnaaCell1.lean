/-
  The walks of package cell: order, Less, Same; the reference's.
-/
import Derived.Test.YtkdhhafoohnlnaaRows
import Derived.Test.YtkdhhafoohnlnaaVals
import Derived.Deep.RegionHeld3
namespace Go.Proofs.Ytkdhhafoohnlnaa
open Go.RowKit

theorem quiet_here {P : Program} {f : FuncId} {args : Array Value} {w : World} {n : Nat} {v : Value}
    (h : Calls P f args (w.drewN n) fun e w' => e = .returned v ∧ w.drewN n = w') : Calls P f args (w.drewN n) fun e w'' => e = .returned v ∧ ∃ m, w'' = w.drewN m :=
  h.mono fun _ _ ⟨he, hm⟩ => ⟨he, n, hm.symm⟩
theorem Chg.same {S : List Nat} {a w : World} (h : Chg S a w) {t : Nat} : Chg S a { w with drawn := t } := ⟨h.os, h.tape, h.output, h.size, h.block⟩

def rankV (k : Nat) : Int := if k = 3 then 1 else if k = 1 then 2 else if k = 2 then 3 else 0
def cmpI (x y : Int) : Int := if x < y then -1 else if y < x then 1 else 0
theorem rank_any (k : Nat) (w : World) : Calls Try.prog 42 #[.int .u8 k] w fun e w' => e = .returned (.int .i64 (rankV k)) ∧ w = w' := by
  unfold rankV
  by_cases h3 : k = 3
  · subst h3
    go_enter Try.func42, Try.ntmps42
    go_wp2
    go_ret
    exact ⟨rfl, rfl⟩
  · by_cases h1 : k = 1
    · subst h1
      go_enter Try.func42, Try.ntmps42
      go_wp2
      go_ret
      exact ⟨rfl, rfl⟩
    · by_cases h2 : k = 2
      · subst h2
        go_enter Try.func42, Try.ntmps42
        go_wp2
        go_ret
        exact ⟨rfl, rfl⟩
      · have e3 : ((k : Int) == 3) = false := by simp; omega
        have e1 : ((k : Int) == 1) = false := by simp; omega
        have e2 : ((k : Int) == 2) = false := by simp; omega
        rw [if_neg h3, if_neg h1, if_neg h2]
        go_enter Try.func42, Try.ntmps42
        go_wp2
        go_ret
        exact ⟨rfl, rfl⟩
theorem nan3 (x : Int) (w : World) : Calls Try.prog 48 #[.int .i64 x] w fun e w' => e = .returned (.bool false) ∧ w = w' := by
  go_enter Try.func48, Try.ntmps48
  go_wp2
  go_ret
  exact ⟨rfl, rfl⟩
theorem cmp_int (x y : Int) (w : World) : Calls Try.prog 41 #[.int .i64 x, .int .i64 y] w fun e w' => e = .returned (.int .i64 (cmpI x y)) ∧ w = w' := by
  unfold cmpI
  by_cases h1 : x < y
  · rw [if_pos h1]
    go_enter Try.func41, Try.ntmps41
    go_wp2_with (first | (go_at_call 48; refine (nan3 _ _).mono ?_; rintro e w' ⟨rfl, rfl⟩))
    go_ret
    exact ⟨rfl, rfl⟩
  · rw [if_neg h1]
    by_cases h2 : y < x
    · rw [if_pos h2]
      go_enter Try.func41, Try.ntmps41
      go_wp2_with (first | (go_at_call 48; refine (nan3 _ _).mono ?_; rintro e w' ⟨rfl, rfl⟩))
      go_ret
      exact ⟨rfl, rfl⟩
    · rw [if_neg h2]
      go_enter Try.func41, Try.ntmps41
      go_wp2_with (first | (go_at_call 48; refine (nan3 _ _).mono ?_; rintro e w' ⟨rfl, rfl⟩))
      go_ret
      exact ⟨rfl, rfl⟩
theorem nan2 (x : Int) (w : World) : Calls Try.prog 49 #[.int .i64 x] w fun e w' => e = .returned (.bool false) ∧ w = w' := by
  go_enter Try.func49, Try.ntmps49
  go_wp2
  go_ret
  exact ⟨rfl, rfl⟩
theorem cmp_i64 (x y : Int) (w : World) : Calls Try.prog 44 #[.int .i64 x, .int .i64 y] w fun e w' => e = .returned (.int .i64 (cmpI x y)) ∧ w = w' := by
  unfold cmpI
  by_cases h1 : x < y
  · rw [if_pos h1]
    go_enter Try.func44, Try.ntmps44
    go_wp2_with (first | (go_at_call 49; refine (nan2 _ _).mono ?_; rintro e w' ⟨rfl, rfl⟩))
    go_ret
    exact ⟨rfl, rfl⟩
  · rw [if_neg h1]
    by_cases h2 : y < x
    · rw [if_pos h2]
      go_enter Try.func44, Try.ntmps44
      go_wp2_with (first | (go_at_call 49; refine (nan2 _ _).mono ?_; rintro e w' ⟨rfl, rfl⟩))
      go_ret
      exact ⟨rfl, rfl⟩
    · rw [if_neg h2]
      go_enter Try.func44, Try.ntmps44
      go_wp2_with (first | (go_at_call 49; refine (nan2 _ _).mono ?_; rintro e w' ⟨rfl, rfl⟩))
      go_ret
      exact ⟨rfl, rfl⟩
theorem nans (x : ByteArray) (w : World) : Calls Try.prog 50 #[.string x] w fun e w' => e = .returned (.bool false) ∧ w = w' := by
  go_enter Try.func50, Try.ntmps50
  go_wp2
  go_ret
  exact ⟨by simp, rfl⟩
def cmpS (x y : ByteArray) : Int := if lexL (bytesI x) (bytesI y) then -1 else if lexL (bytesI y) (bytesI x) then 1 else 0
theorem bl (x y : ByteArray) : Op.bytesLess x.toList y.toList = lexL (bytesI x) (bytesI y) := bytesLess_lex _ _
theorem cmp_str (x y : ByteArray) (w : World) : Calls Try.prog 45 #[.string x, .string y] w fun e w' => e = .returned (.int .i64 (cmpS x y)) ∧ w = w' := by
  unfold cmpS
  cases h1 : lexL (bytesI x) (bytesI y) with
  | true =>
    have b1 : Op.bytesLess x.toList y.toList = true := by rw [bl, h1]
    go_enter Try.func45, Try.ntmps45
    go_wp2_with (first | (go_at_call 50; refine (nans _ _).mono ?_; rintro e w' ⟨rfl, rfl⟩))
    go_ret
    exact ⟨rfl, rfl⟩
  | false =>
    have b1 : Op.bytesLess x.toList y.toList = false := by rw [bl, h1]
    cases h2 : lexL (bytesI y) (bytesI x) with
    | true =>
      have b2 : (x.toList == y.toList) = false := by
        rw [beq_eq_false_iff_ne]
        intro e
        have : bytesI x = bytesI y := by unfold bytesI; rw [e]
        rw [this, lexL_irrefl] at h2
        cases h2
      go_enter Try.func45, Try.ntmps45
      go_wp2_with (first | (go_at_call 50; refine (nans _ _).mono ?_; rintro e w' ⟨rfl, rfl⟩))
      go_ret
      exact ⟨rfl, rfl⟩
    | false =>
      have b2 : (x.toList == y.toList) = true := by rw [bytesI_inj (lexL_total _ _ h1 h2)]; simp
      go_enter Try.func45, Try.ntmps45
      go_wp2_with (first | (go_at_call 50; refine (nans _ _).mono ?_; rintro e w' ⟨rfl, rfl⟩))
      go_ret
      exact ⟨rfl, rfl⟩
def bitV (b : Bool) : Int := if b then 1 else 0
theorem bit_any (b : Bool) (w : World) : Calls Try.prog 46 #[.bool b] w fun e w' => e = .returned (.int .i64 (bitV b)) ∧ w = w' := by
  unfold bitV
  cases b
  · go_enter Try.func46, Try.ntmps46
    go_wp2
    go_ret
    exact ⟨rfl, rfl⟩
  · go_enter Try.func46, Try.ntmps46
    go_wp2
    go_ret
    exact ⟨rfl, rfl⟩
/-- What open answers. -/
def openV (v : Vl) : Value := if v.k = 1 then .iface 2 (.int .i64 v.i) else if v.k = 2 then .iface 9 (.string v.s) else if v.k = 3 then .iface 4 (.bool v.b) else .nilIface
theorem open_any (v : Vl) (w : World) : Calls Try.prog 43 #[v.val] w fun e w' => e = .returned (openV v) ∧ Chg [] w w' := by
  obtain ⟨k, i, s, b⟩ := v
  unfold Vl.val openV
  by_cases h1 : k = 1
  · subst h1
    go_enter Try.func43, Try.ntmps43
    go_wp2
    go_ret
    exact ⟨rfl, (Chg.refl [] w).alloc _⟩
  · have e1 : ((k : Int) == 1) = false := by simp; omega
    rw [if_neg h1]
    by_cases h2 : k = 2
    · subst h2
      go_enter Try.func43, Try.ntmps43
      go_wp2
      go_ret
      exact ⟨rfl, (Chg.refl [] w).alloc _⟩
    · have e2 : ((k : Int) == 2) = false := by simp; omega
      rw [if_neg h2]
      by_cases h3 : k = 3
      · subst h3
        go_enter Try.func43, Try.ntmps43
        go_wp2
        go_ret
        exact ⟨rfl, (Chg.refl [] w).alloc _⟩
      · have e3 : ((k : Int) == 3) = false := by simp; omega
        rw [if_neg h3]
        go_enter Try.func43, Try.ntmps43
        go_wp2
        go_ret
        exact ⟨rfl, (Chg.refl [] w).alloc _⟩
end Go.Proofs.Ytkdhhafoohnlnaa
