/-
  The walks of package page: a slot's pointer, New, far, right.
-/
import Derived.Test.YteokjaocnemmlaaPage1
import Derived.Test.YteokjaocnemmlaaRoom
namespace Go.Proofs.Yteokjaocnemmlaa
open Go.RowKit

theorem quiet_here {P : Program} {f : FuncId} {args : Array Value} {w : World} {n : Nat} {v : Value}
    (h : Calls P f args (w.drewN n) fun e w' => e = .returned v ∧ w.drewN n = w') : Calls P f args (w.drewN n) fun e w'' => e = .returned v ∧ ∃ m, w'' = w.drewN m :=
  h.mono fun _ _ ⟨he, hm⟩ => ⟨he, n, hm.symm⟩
theorem quiet_more {P : Program} {f : FuncId} {args : Array Value} {w : World} {n : Nat} {v : Value}
    (h : Calls P f args (w.drewN n) fun e w' => e = .returned v ∧ ∃ m, w' = (w.drewN n).drewN m) : Calls P f args (w.drewN n) fun e w'' => e = .returned v ∧ ∃ m, w'' = w.drewN m :=
  h.mono fun _ _ ⟨he, m, hm⟩ => ⟨he, n + m, by rw [hm, World.drewN_drewN]⟩

/-- Two bytes' number. -/
def u16 (f : Nat → Int) (a : Nat) : Int := f a + 256 * f (a + 1)
theorem u16_range {f : Nat → Int} {N a : Nat} (hf : Bytes f N) (h : a + 2 ≤ N) : 0 ≤ u16 f a ∧ u16 f a ≤ 65535 := by
  have h0 := hf a (by omega)
  have h1 := hf (a + 1) (by omega)
  unfold u16
  omega
theorem num2_any (p off cap t N : Nat) (f : Nat → Int) (w : World) (hf : Bytes f N) (hN : off + 2 ≤ N) (hp : w.heap[p]? = some (ints .u8 t N f)) :
    Calls Try.prog 81 #[.slice (some ⟨p, off, none⟩) 2 cap] w fun e w' => e = .returned (.int .u64 (u16 f off)) ∧ w = w' := by
  have := num_any p off 2 cap (fun i => f (off + i)) w (by omega) (bytes_of hf hN) (cells_of hp hN)
  rw [le2] at this
  exact this

set_option maxRecDepth 100000 in
set_option maxHeartbeats 1000000 in
theorem at_any (p s : Nat) (f : Nat → Int) (w : World) (hs : 4 + 4 * s + 4 ≤ 512) (hf : Bytes f 512) (hp : w.heap[p]? = some (ints .u8 134 512 f)) :
    Calls Try.prog 82 #[.pointer (some ⟨p, 0, none⟩), .int .i64 s] w fun e w' => e = .returned (.tuple #[.int .i64 (u16 f (4 + 4 * s)), .int .i64 (u16 f (4 + 4 * s + 2))]) ∧ ∃ n, w' = w.drewN n := by
  obtain ⟨o, ho⟩ : ∃ o, o = 4 + 4 * s := ⟨_, rfl⟩
  obtain ⟨c, hc⟩ : ∃ c, 512 - o = c := ⟨_, rfl⟩
  have hoi : 4 + 4 * (s : Int) = (o : Int) := by omega
  have hl1 : (o : Int) ≤ 512 := by omega
  have hl4 : o + 4 ≤ 512 := by omega
  have hne : ¬ (512 = o) := by omega
  have hc4 : (4 : Int) ≤ (c : Int) := by omega
  have hc2 : ¬ (c = 2) := by omega
  have r1 := u16_range (a := o) hf (by omega)
  have r2 := u16_range (a := o + 2) hf (by omega)
  have ex : IntKind.i64.wrap (u16 f o) = u16 f o := IntWalk.i64_in _ (by omega)
  have ey : IntKind.i64.wrap (u16 f (o + 2)) = u16 f (o + 2) := IntWalk.i64_in _ (by omega)
  have HPP := Lib.hid hp
  rw [← ho]
  clear ho hs hp
  go_enter Try.func82, Try.ntmps82
  go_wp2_with fail
  go_quiet ((go_at_call 81; exact quiet_here (num2_any p _ _ 134 512 f _ hf (by omega) (by exact HPP.out))))
  go_wp2
  go_ret2
  exact ⟨rfl, _, rfl⟩

/-- A page, one pointer of which is that. -/
def pointF (f : Nat → Int) (s : Nat) (a n : Int) : Nat → Int := splice (splice f (4 + 4 * s) 2 (byteAt a)) (4 + 4 * s + 2) 2 (byteAt n)

set_option maxRecDepth 100000 in
set_option maxHeartbeats 1000000 in
theorem point_any (p s : Nat) (f : Nat → Int) (a n : Int) (w : World) (hs : 4 + 4 * s + 4 ≤ 512) (ha : 0 ≤ a ∧ a ≤ 65535) (hn : 0 ≤ n ∧ n ≤ 65535) (hp : w.heap[p]? = some (ints .u8 134 512 f)) :
    Calls Try.prog 72 #[.pointer (some ⟨p, 0, none⟩), .int .i64 s, .int .i64 a, .int .i64 n] w fun e w' => e = .returned (.tuple #[]) ∧ w'.heap[p]? = some (ints .u8 134 512 (pointF f s a n)) ∧ Chg [p] w w' := by
  unfold pointF
  obtain ⟨o, ho⟩ : ∃ o, o = 4 + 4 * s := ⟨_, rfl⟩
  obtain ⟨c, hc⟩ : ∃ c, 512 - o = c := ⟨_, rfl⟩
  have hoi : 4 + 4 * (s : Int) = (o : Int) := by omega
  have hl1 : (o : Int) ≤ 512 := by omega
  have hl4 : o + 4 ≤ 512 := by omega
  have hne : ¬ (512 = o) := by omega
  have hc4 : (4 : Int) ≤ (c : Int) := by omega
  have hc2 : ¬ (c = 2) := by omega
  have a0 := ha.1
  have a1 := ha.2
  have n0 := hn.1
  have n1 := hn.2
  have HPP := Lib.hid hp
  rw [← ho]
  clear ho hs hp ha hn
  go_enter Try.func72, Try.ntmps72
  go_wp2_with fail
  refine (put_any p o 2 _ 134 512 f a _ (by omega) (by omega) HPP.out).mono ?_
  rintro e w1 ⟨rfl, h1, hC1⟩
  have H1 := Lib.hid h1
  have HC1 := Lib.hid hC1
  clear h1 hC1
  go_wp2_with fail
  refine (put_any p (o + 2) 2 _ 134 512 _ n _ (by omega) (by omega) H1.out).mono ?_
  rintro e w2 ⟨rfl, h2, hC2⟩
  have H2 := Lib.hid h2
  have HC2 := Lib.hid hC2
  clear h2 hC2
  go_wp2
  go_end0
  exact ⟨rfl, H2.out, HC1.out.trans HC2.out⟩

theorem zero134 : Obj.cells Try.zeroCells134 134 = ints .u8 134 512 (fun _ => 0) := by kernel_rfl
theorem setp_new (f : Nat → Int) (c s : Int) (w : World) (hc0 : 0 ≤ c) (hc1 : c ≤ 65535) (hs0 : 0 ≤ s) (hs1 : s ≤ 65535) :
    Calls Try.prog 64 #[.pointer (some ⟨w.heap.size, 0, none⟩), .int .i64 c, .int .i64 s] (w.alloc (ints .u8 134 512 f)) fun e w' => e = .returned (.tuple #[]) ∧ w'.heap[w.heap.size]? = some (ints .u8 134 512 (setF f c s)) ∧ Chg [] w w' ∧ w.heap.size < w'.heap.size := by
  refine (setp_any w.heap.size f c s _ hc0 hc1 hs0 hs1 (heap_alloc_new w _)).mono ?_
  rintro e w' ⟨rfl, h1, hC⟩
  refine ⟨rfl, h1, ?_, lt_of_heap h1⟩
  have := ((Chg.refl [] w).alloc (ints .u8 134 512 f)).trans' hC (by simp)
  exact this
/-- page.New: a new block. -/
theorem pnew_any (w : World) :
    Calls Try.prog 43 #[] w fun e w' => e = .returned (.pointer (some ⟨w.heap.size, 0, none⟩)) ∧ w'.heap[w.heap.size]? = some (ints .u8 134 512 (setF (fun _ => 0) 0 512)) ∧ Chg [] w w' ∧ w.heap.size < w'.heap.size := by
  go_enter Try.func43, Try.ntmps43
  go_wp2_with fail
  rw [zero134]
  refine (setp_new _ 0 512 w (by omega) (by omega) (by omega) (by omega)).mono ?_
  rintro e w' ⟨rfl, h1, hC, hs⟩
  have H1 := Lib.hid h1
  have HC := Lib.hid hC
  have HS := Lib.hid hs
  clear h1 hC hs
  go_wp2
  go_ret
  exact ⟨rfl, H1.out, HC.out, HS.out⟩

/-- Is a place where no version may lie? -/
def farB (a b : Int) : Bool := if a = -1 ∨ b = -1 then !decide (a = b) else decide (a < 0) || decide (65536 ≤ a) || decide (b < 0) || decide (65535 ≤ b)

set_option maxRecDepth 100000 in
set_option maxHeartbeats 1000000 in
theorem far_any (a b : Int) (w : World) :
    Calls Try.prog 74 #[.agg #[.int .i64 a, .int .i64 b]] w fun e w' => e = .returned (.bool (farB a b)) ∧ Chg [] w w' := by
  by_cases h1 : a = -1
  · subst h1
    by_cases h2 : b = -1
    · subst h2
      go_enter Try.func74, Try.ntmps74
      go_wp2
      go_ret
      exact ⟨rfl, (Chg.refl _ _).alloc _⟩
    · have e2 : ((-1 : Int) == b) = false := by simp; omega
      have e3 : ((-1 : Int) != b) = true := by simp; omega
      have fb : farB (-1) b = true := by unfold farB; rw [if_pos (.inl rfl)]; simp; omega
      rw [fb]
      clear h2 fb
      go_enter Try.func74, Try.ntmps74
      go_wp2
      go_ret
      exact ⟨rfl, (Chg.refl _ _).alloc _⟩
  · have e1 : (a == -1) = false := by simpa using h1
    by_cases h2 : b = -1
    · subst h2
      have e2 : (a != -1) = true := by simpa using h1
      have fb : farB a (-1) = true := by unfold farB; rw [if_pos (.inr rfl)]; simpa using h1
      rw [fb]
      clear fb h1
      go_enter Try.func74, Try.ntmps74
      go_wp2
      go_ret
      exact ⟨rfl, (Chg.refl _ _).alloc _⟩
    · have e2 : (b == -1) = false := by simpa using h2
      have fb : farB a b = (decide (a < 0) || decide (65536 ≤ a) || decide (b < 0) || decide (65535 ≤ b)) := by unfold farB; rw [if_neg (by omega)]
      rw [fb]
      clear fb h1 h2
      by_cases c1 : a < 0
      · rw [decide_eq_true c1]
        have d1 : decide (a < 0) = true := decide_eq_true c1
        clear c1
        go_enter Try.func74, Try.ntmps74
        go_wp2
        go_ret
        exact ⟨rfl, (Chg.refl _ _).alloc _⟩
      · rw [decide_eq_false c1]
        have d1 : decide (a < 0) = false := decide_eq_false c1
        clear c1
        by_cases c2 : 65536 ≤ a
        · rw [decide_eq_true c2]
          have d2 : decide (65536 ≤ a) = true := decide_eq_true c2
          clear c2
          go_enter Try.func74, Try.ntmps74
          go_wp2
          go_ret
          exact ⟨rfl, (Chg.refl _ _).alloc _⟩
        · rw [decide_eq_false c2]
          have d2 : decide (65536 ≤ a) = false := decide_eq_false c2
          clear c2
          by_cases c3 : b < 0
          · rw [decide_eq_true c3]
            have d3 : decide (b < 0) = true := decide_eq_true c3
            clear c3
            go_enter Try.func74, Try.ntmps74
            go_wp2
            go_ret
            exact ⟨rfl, (Chg.refl _ _).alloc _⟩
          · rw [decide_eq_false c3]
            have d3 : decide (b < 0) = false := decide_eq_false c3
            clear c3
            go_enter Try.func74, Try.ntmps74
            go_wp2
            go_ret
            exact ⟨rfl, (Chg.refl _ _).alloc _⟩

/-- max of three. -/
theorem wpList_max3 {P : Program} {w : World} {ops : Array Oper} {rest : List Oper} {o : Oper} {a : Act} {Q : Exit → Act → World → Prop} (hgd : o.guard = none) (x y z : Operand) (ts : Array TypeId)
    (ho : o.op = .call { callee := .builtin .max, args := #[x, y, z], argTypes := ts }) (k : IntKind) (m n r : Int) (hx : a.eval x = .int k m) (hy : a.eval y = .int k n) (hz : a.eval z = .int k r)
    (h : wpList P ops Q rest (a.put o.dst (.int k (max m (max n r)))) w) : wpList P ops Q (o :: rest) a w := by
  refine wpList_plain hgd fun K hK => ?_
  have e : (if r > (if n > m then n else m) then r else (if n > m then n else m)) = max m (max n r) := by
    rw [Int.max_def, Int.max_def]
    (repeat' split) <;> omega
  unfold Oper.wp execOp
  simp [ho, resolve, invoke, builtin, hx, hy, hz, Builtin.max_, Builtin.max2, e]
  exact hK _ _ h

/-- Is a version? n: how many bytes its data have. -/
def rightB (row xmin xmax a b : Int) (n : Nat) : Bool := decide (max row (max xmin xmax) ≤ 1099511627776) && !farB a b && decide ((n : Int) ≤ 200)

set_option maxRecDepth 100000 in
set_option maxHeartbeats 1000000 in
theorem right_any (row xmin xmax a b : Int) (A : Option Addr) (n c : Nat) (w : World) :
    Calls Try.prog 65 #[.agg #[.int .u64 row, .int .u64 xmin, .int .u64 xmax, .int .i64 a, .int .i64 b, .slice A n c]] w fun e w' => e = .returned (.bool (rightB row xmin xmax a b n)) ∧ Chg [] w w' := by
  unfold rightB
  by_cases h1 : max row (max xmin xmax) ≤ 1099511627776
  · rw [decide_eq_true h1]
    have d1 := decide_eq_true h1
    clear h1
    cases hf : farB a b
    · have hfar := fun w' => far_any a b w'
      rw [hf] at hfar
      have HF := Lib.hid hfar
      clear hfar hf
      go_enter Try.func65, Try.ntmps65
      go_wp2_with (first | (refine wpList_max3 rfl (.tmp 4) (.tmp 6) (.tmp 8) _ rfl .u64 row xmin xmax rfl rfl rfl ?_) | (go_at_call 74; refine (HF.out _).mono ?_; rintro e w1 ⟨rfl, hC⟩; have hc5 := hC.cell (p := ⟨w.heap.size, 5, none⟩) (u := .slice A n c) (by simp) (by simp); have HC := Lib.hid hC; clear hC))
      go_ret
      exact ⟨rfl, ((Chg.refl [] w).alloc _).trans HC.out⟩
    · have hfar := fun w' => far_any a b w'
      rw [hf] at hfar
      have HF := Lib.hid hfar
      clear hfar hf
      go_enter Try.func65, Try.ntmps65
      go_wp2_with (first | (refine wpList_max3 rfl (.tmp 4) (.tmp 6) (.tmp 8) _ rfl .u64 row xmin xmax rfl rfl rfl ?_) | (go_at_call 74; refine (HF.out _).mono ?_; rintro e w1 ⟨rfl, hC⟩; have HC := Lib.hid hC; clear hC))
      go_ret
      exact ⟨rfl, ((Chg.refl [] w).alloc _).trans HC.out⟩
  · rw [decide_eq_false h1]
    have d1 := decide_eq_false h1
    clear h1
    go_enter Try.func65, Try.ntmps65
    go_wp2_with (first | (refine wpList_max3 rfl (.tmp 4) (.tmp 6) (.tmp 8) _ rfl .u64 row xmin xmax rfl rfl rfl ?_))
    go_ret
    exact ⟨rfl, (Chg.refl _ _).alloc _⟩
end Go.Proofs.Yteokjaocnemmlaa
