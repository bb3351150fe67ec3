/-
  A map from places to truth values that the call makes: which places it holds. The laws of its look-up and its store, for the walk.
-/
import Derived.Test.YteokjaocnemmlaaHeap11
import Derived.Maps.OwnSet
import Derived.DeepKeys4
namespace Go.Proofs.Yteokjaocnemmlaa
open Go.RowKit

theorem laid0 : laidOutB Try.prog = true := by kernel_rfl
theorem law53 : WideMaps.KeyLaw Try.prog 53 := deep_law_laid laid0 (m := 2) (by omega) (of_decide_eq_true (by kernel_rfl)) (by kernel_rfl) (by rw [Try.underlying53])
theorem keyed53 : Maps.Keyed Try.prog 53 := .of_law law53
theorem cells53 : Try.prog.cellsOf 53 = 2 := by kernel_rfl
theorem cells3 : Try.prog.cellsOf 3 = 1 := by kernel_rfl
theorem keyt53 : Try.prog.keyType 53 = true := by kernel_rfl
theorem types2 : ∃ m, Try.prog.types.size = m + 1 := ⟨Try.prog.types.size - 1, by have : 0 < Try.prog.types.size := of_decide_eq_true (by kernel_rfl); omega⟩
theorem key53 {p s : Int} (hp : (Lit.int .i64 p).wf = true) (hs : (Lit.int .i64 s).wf = true) : ∃ kl, keyOf Try.prog 53 (.agg #[.int .i64 p, .int .i64 s]) = some kl := by
  obtain ⟨m, hm⟩ := types2
  unfold keyOf
  simp only [Try.underlying53, keyt53, Value.formed, cells53, hm]
  simp [Program.keyLits, Try.underlying53, Try.underlying3, cells53, cells3, hp, hs, Value.cells]

def Seen (w : World) (b n : Nat) (S : Int → Int → Bool) : Prop :=
  ∃ D : DataW Unit, w.ownsMap Try.prog 53 (plainElem Try.prog 4) b n D ∧ ∀ p s kl, keyOf Try.prog 53 (.agg #[.int .i64 p, .int .i64 s]) = some kl → D.atKey kl (.lit (.bool false)) = .lit (.bool (S p s))

theorem Seen.made (w : World) : Seen (w.alloc (.map #[] 0)) w.heap.size 0 (fun _ _ => false) :=
  ⟨_, World.ownsMap_made _ _ _ _, fun _ _ _ _ => rfl⟩
theorem Seen.chg {w w' : World} {b n : Nat} {S : Int → Int → Bool} {T : List Nat} (h : Seen w b n S) (hc : Chg T w w') (hb : b ∉ T) : Seen w' b n S := by
  obtain ⟨D, ⟨es, clock, h1, h2⟩, h3⟩ := h
  exact ⟨D, ⟨es, clock, hc.heap h1 hb, h2⟩, h3⟩
theorem Seen.lt {w : World} {b n : Nat} {S : Int → Int → Bool} (h : Seen w b n S) : b < w.heap.size := by
  obtain ⟨D, h1, _⟩ := h
  exact h1.lt
/-- A map is no row of cells. -/
theorem Seen.ne {w : World} {b n g t : Nat} {S : Int → Int → Bool} {cs : Array Value} {fr : Nat × Nat} (h : Seen w b n S) (hg : w.heap[g]? = some (.cells cs t fr)) : b ≠ g := by
  intro e
  subst e
  obtain ⟨D, ⟨es, clock, h1, _⟩, _⟩ := h
  rw [h1] at hg
  cases hg
theorem zero4 (w : World) : (zeroValue 4).run Try.prog w = .ok (.bool false) w := by kernel_rfl

theorem bool_inv {P : Program} {e : TypeId} (he : P.underlying e = some .bool) {v : Value} {z : DataW Unit × List MemPlace} (h : plainElem P e v = some z) : ∃ a, v = .bool a ∧ z = (.lit (.bool a), []) := by
  unfold plainElem at h
  rw [he] at h
  cases v <;> simp at h
  subst h
  exact ⟨_, rfl, rfl⟩

theorem Seen.look {w : World} {b n : Nat} {S : Int → Int → Bool} (h : Seen w b n S) {p s : Int} (hp : (Lit.int .i64 p).wf = true) (hs : (Lit.int .i64 s).wf = true) :
    (Instr.lookup 110 (.map (some b)) (.agg #[.int .i64 p, .int .i64 s]) false).run Try.prog w = .ok (.bool (S p s)) w := by
  obtain ⟨D, h1, h2⟩ := h
  obtain ⟨kl, hkl⟩ := key53 hp hs
  obtain ⟨v, ps, hrun, hv⟩ := h1.lookup keyed53 Try.underlying110 (zero4 w) (plainElem_bool Try.underlying4 false) hkl
  obtain ⟨a, rfl, hz⟩ := bool_inv Try.underlying4 hv
  rw [h2 p s kl hkl] at hz
  have hz2 : S p s = a := by simpa using congrArg Prod.fst hz
  rw [hrun, hz2]

theorem Seen.put {w : World} {b n : Nat} {S : Int → Int → Bool} (h : Seen w b n S) (hn : n < 1000000) {p s : Int} (hp : (Lit.int .i64 p).wf = true) (hs : (Lit.int .i64 s).wf = true) :
    ∃ w', (Instr.mapUpdate 110 (.map (some b)) (.agg #[.int .i64 p, .int .i64 s]) (.bool true)).run Try.prog w = .ok () w' ∧ Seen w' b (n + 1) (fun x y => S x y || (p == x && s == y)) ∧ Chg [b] w w' := by
  obtain ⟨D, h1, h2⟩ := h
  obtain ⟨kl, hkl⟩ := key53 hp hs
  obtain ⟨w', hrun, h3, h4⟩ := h1.store keyed53 Try.underlying110 (show n < maxLen by unfold maxLen; omega) hkl (plainElem_bool Try.underlying4 true)
  refine ⟨w', hrun, ⟨_, h3, ?_⟩, Chg.of_grown h4.grown⟩
  intro x y kx hx
  by_cases he : kx = kl
  · subst he
    have := law53.inj hx hkl
    simp only [Value.agg.injEq, Array.mk.injEq, List.cons.injEq, Value.int.injEq, true_and, and_true] at this
    obtain ⟨rfl, rfl⟩ := this
    rw [Maps.atKey_put_same h1.isMap (keyed53.key hkl)]
    simp
  · rw [Maps.atKey_put_other he, h2 x y kx hx]
    have : (p == x && s == y) = false := by
      rw [Bool.eq_false_iff]
      intro h
      simp at h
      obtain ⟨rfl, rfl⟩ := h
      rw [hkl] at hx
      injection hx with hx
      exact he hx.symm
    show _ = DataW.lit (Lit.bool (S x y || (p == x && s == y)))
    rw [this, Bool.or_false]

theorem wpList_seen {w : World} {ops : Array Oper} {rest : List Oper} {o : Oper} {a : Act} {Q : Exit → Act → World → Prop} (hg : o.guard = none) (m x : Operand) (hop : o.op = Op.lookup 110 m x false)
    (b n : Nat) (S : Int → Int → Bool) (p s : Int) (c : Bool) (hm : a.eval m = .map (some b)) (hx : a.eval x = .agg #[.int .i64 p, .int .i64 s]) (hS : Seen w b n S) (hp : (Lit.int .i64 p).wf = true) (hs : (Lit.int .i64 s).wf = true) (hc : S p s = c)
    (hK : wpList Try.prog ops Q rest (a.put o.dst (.bool c)) w) : wpList Try.prog ops Q (o :: rest) a w := by
  refine wpList_plain hg fun K' hK' => ?_
  have hrun := hS.look hp hs
  unfold Oper.wp
  simp [execOp, hop, hm, hx, hrun, Result.andThen]
  rw [hc]
  exact hK' _ _ hK
theorem wpList_see {w : World} {ops : Array Oper} {rest : List Oper} {o : Oper} {a : Act} {Q : Exit → Act → World → Prop} (hg : o.guard = none) (m x v : Operand) (hop : o.op = Op.mapUpdate 110 m x v)
    (b n : Nat) (S : Int → Int → Bool) (p s : Int) (hm : a.eval m = .map (some b)) (hx : a.eval x = .agg #[.int .i64 p, .int .i64 s]) (hv : a.eval v = .bool true) (hS : Seen w b n S) (hn : n < 1000000) (hp : (Lit.int .i64 p).wf = true) (hs : (Lit.int .i64 s).wf = true)
    (hK : ∀ w', Seen w' b (n + 1) (fun x y => S x y || (p == x && s == y)) → Chg [b] w w' → wpList Try.prog ops Q rest (a.put o.dst undef) w') : wpList Try.prog ops Q (o :: rest) a w := by
  refine wpList_plain hg fun K' hK' => ?_
  obtain ⟨w', hrun, h1, h2⟩ := hS.put hn hp hs
  unfold Oper.wp
  simp [execOp, hop, hm, hx, hv, hrun, Result.andThen]
  exact hK' _ _ (hK w' h1 h2)
end Go.Proofs.Yteokjaocnemmlaa
