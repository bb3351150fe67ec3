/-
  A map from numbers to numbers that the call makes. The laws of its look-up, its store, its length, for the walk.
-/
import Derived.Test.YtkdhhafoohnlnaaAwk3
import Derived.Maps.OwnSet
import Derived.DeepKeys4
namespace Go.Proofs.Ytkdhhafoohnlnaa
open Go.RowKit

theorem keyed3 : Maps.Keyed Try.prog 3 := Maps.int_keyed Try.underlying3
theorem zero3 (w : World) : (zeroValue 3).run Try.prog w = .ok (.int .i64 0) w := by kernel_rfl
theorem small_wf {i : Nat} (h : i ≤ 1000000) : (Lit.int .i64 (i : Int)).wf = true := by
  unfold Lit.wf
  simp only [Bool.and_eq_true, decide_eq_true_eq]
  constructor
  · show (-9223372036854775808 : Int) ≤ i; omega
  · show (i : Int) ≤ 9223372036854775807; omega
theorem key3 {i : Nat} (h : i ≤ 1000000) : keyOf Try.prog 3 (.int .i64 (i : Int)) = some (.int .i64 (i : Int)) := Maps.keyOf_int_mk Try.underlying3 (small_wf h)

/-- The map holds f, at the keys of p; s of them. -/
def IMap (w : World) (b n : Nat) (f : Nat → Nat) (p : Nat → Bool) (s : Nat) : Prop :=
  ∃ D : DataW Unit, w.ownsMap Try.prog 3 (plainElem Try.prog 3) b n D ∧ (∀ i : Nat, i ≤ 1000000 → D.atKey (.int .i64 (i : Int)) (.lit (.int .i64 0)) = .lit (.int .i64 (f i : Int))) ∧ (∀ i : Nat, i ≤ 1000000 → Maps.has D (.int .i64 (i : Int)) = p i) ∧ Maps.size D = s

theorem IMap.made (w : World) : IMap (w.alloc (.map #[] 0)) w.heap.size 0 (fun _ => 0) (fun _ => false) 0 :=
  ⟨_, World.ownsMap_made _ _ _ _, fun _ _ => rfl, fun _ _ => rfl, rfl⟩
theorem IMap.chg {w w' : World} {b n s : Nat} {f : Nat → Nat} {p : Nat → Bool} {T : List Nat} (h : IMap w b n f p s) (hc : Chg T w w') (hb : b ∉ T) : IMap w' b n f p s := by
  obtain ⟨D, ⟨es, clock, h1, h2⟩, h3⟩ := h
  exact ⟨D, ⟨es, clock, hc.heap h1 hb, h2⟩, h3⟩
theorem IMap.lt {w : World} {b n s : Nat} {f : Nat → Nat} {p : Nat → Bool} (h : IMap w b n f p s) : b < w.heap.size := by
  obtain ⟨D, h1, _⟩ := h
  exact h1.lt
/-- A map is no row of cells. -/
theorem IMap.ne {w : World} {b n s g t : Nat} {f : Nat → Nat} {p : Nat → Bool} {cs : Array Value} {fr : Nat × Nat} (h : IMap w b n f p s) (hg : w.heap[g]? = some (.cells cs t fr)) : b ≠ g := by
  intro e
  subst e
  obtain ⟨D, ⟨es, clock, h1, _⟩, _⟩ := h
  rw [h1] at hg
  cases hg
theorem IMap.look {w : World} {b n s : Nat} {f : Nat → Nat} {p : Nat → Bool} (h : IMap w b n f p s) {i : Nat} (hi : i ≤ 1000000) :
    (Instr.lookup 41 (.map (some b)) (.int .i64 (i : Int)) false).run Try.prog w = .ok (.int .i64 (f i : Int)) w := by
  obtain ⟨D, h1, h2, _⟩ := h
  obtain ⟨v, ps, hrun, hv⟩ := h1.lookup keyed3 Try.underlying41 (zero3 w) (plainElem_int Try.underlying3 (by decide)) (key3 hi)
  obtain ⟨a, rfl, hz, _⟩ := plainElem_int_inv Try.underlying3 hv
  rw [h2 i hi] at hz
  have hz2 : (f i : Int) = a := by simpa using congrArg Prod.fst hz
  rw [hrun, hz2]
theorem IMap.len {w : World} {b n s : Nat} {f : Nat → Nat} {p : Nat → Bool} (h : IMap w b n f p s) (ty : TypeId) : (Builtin.len_ #[41] ty #[.map (some b)]).run Try.prog w = .ok (.int .i64 (s : Int)) w := by
  obtain ⟨D, h1, h2, h3, h4⟩ := h
  rw [h1.len Try.underlying41 ty, h4]
theorem IMap.put {w : World} {b n s : Nat} {f : Nat → Nat} {p : Nat → Bool} (h : IMap w b n f p s) (hn : n < 1000000) {i v : Nat} (hi : i ≤ 1000000) (hv : v ≤ 1000000) :
    ∃ w', (Instr.mapUpdate 41 (.map (some b)) (.int .i64 (i : Int)) (.int .i64 (v : Int))).run Try.prog w = .ok () w' ∧ IMap w' b (n + 1) (fun x => if x = i then v else f x) (fun x => x == i || p x) (if p i then s else s + 1) ∧ Chg [b] w w' := by
  obtain ⟨D, h1, h2, h3, h4⟩ := h
  obtain ⟨w', hrun, h5, h6⟩ := h1.store keyed3 Try.underlying41 (show n < maxLen by unfold maxLen; omega) (key3 hi) (plainElem_int Try.underlying3 (small_wf hv))
  have hne : ∀ x : Nat, x ≠ i → (Lit.int .i64 (x : Int)) ≠ .int .i64 (i : Int) := by
    intro x hx e
    injection e with _ e
    omega
  refine ⟨w', hrun, ⟨_, h5, ?_, ?_, ?_⟩, Chg.of_grown h6.grown⟩
  · intro x hx
    by_cases he : x = i
    · subst he
      rw [Maps.atKey_put_same h1.isMap (keyed3.key (key3 hi))]
      simp
    · rw [Maps.atKey_put_other (hne x he), h2 x hx]
      simp [he]
  · intro x hx
    by_cases he : x = i
    · subst he
      rw [Maps.has_put_same h1.isMap (keyed3.key (key3 hi))]
      simp
    · rw [Maps.has_put_other (hne x he), h3 x hx]
      have : (x == i) = false := by simpa using he
      show p x = (x == i || p x)
      rw [this, Bool.false_or]
  · rw [Maps.size_put (h1.tidy keyed3), h3 i hi, h4]

theorem wpList_iget {w : World} {ops : Array Oper} {rest : List Oper} {o : Oper} {a : Act} {Q : Exit → Act → World → Prop} (hg : o.guard = none) (m x : Operand) (hop : o.op = Op.lookup 41 m x false)
    (b n s : Nat) (f : Nat → Nat) (p : Nat → Bool) (i v : Nat) (hm : a.eval m = .map (some b)) (hx : a.eval x = .int .i64 (i : Int)) (hS : IMap w b n f p s) (hi : i ≤ 1000000) (hv : f i = v)
    (hK : wpList Try.prog ops Q rest (a.put o.dst (.int .i64 (v : Int))) w) : wpList Try.prog ops Q (o :: rest) a w := by
  refine wpList_plain hg fun K' hK' => ?_
  have hrun := hS.look hi
  unfold Oper.wp
  simp [execOp, hop, hm, hx, hrun, Result.andThen]
  rw [hv]
  exact hK' _ _ hK
theorem wpList_iput {w : World} {ops : Array Oper} {rest : List Oper} {o : Oper} {a : Act} {Q : Exit → Act → World → Prop} (hg : o.guard = none) (m x y : Operand) (hop : o.op = Op.mapUpdate 41 m x y)
    (b n s : Nat) (f : Nat → Nat) (p : Nat → Bool) (i v : Nat) (hm : a.eval m = .map (some b)) (hx : a.eval x = .int .i64 (i : Int)) (hy : a.eval y = .int .i64 (v : Int)) (hS : IMap w b n f p s) (hn : n < 1000000) (hi : i ≤ 1000000) (hv : v ≤ 1000000)
    (hK : ∀ w', IMap w' b (n + 1) (fun x => if x = i then v else f x) (fun x => x == i || p x) (if p i then s else s + 1) → Chg [b] w w' → wpList Try.prog ops Q rest (a.put o.dst undef) w') : wpList Try.prog ops Q (o :: rest) a w := by
  refine wpList_plain hg fun K' hK' => ?_
  obtain ⟨w', hrun, h1, h2⟩ := hS.put hn hi hv
  unfold Oper.wp
  simp [execOp, hop, hm, hx, hy, hrun, Result.andThen]
  exact hK' _ _ (hK w' h1 h2)
end Go.Proofs.Ytkdhhafoohnlnaa
