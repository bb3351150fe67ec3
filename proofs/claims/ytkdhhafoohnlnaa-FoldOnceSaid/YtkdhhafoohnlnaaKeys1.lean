/-
  What is in memory stays as it was where all cells do; the length of the map.
-/
import Derived.Test.YtkdhhafoohnlnaaMapI
import Derived.Test.YtkdhhafoohnlnaaGrpP
import Derived.Test.YtkdhhafoohnlnaaOrders
namespace Go.Proofs.Ytkdhhafoohnlnaa
open Go.RowKit

/-- All cells are as they were. -/
def Keep (w w' : World) : Prop := ∀ {p : Addr} {v : Value}, w.cell? p = some v → w'.cell? p = some v
theorem Keep.refl (w : World) : Keep w w := fun h => h
theorem Keep.of_map {w w' : World} {b n s : Nat} {f : Nat → Nat} {q : Nat → Bool} (h : IMap w b n f q s) (hC : Chg [b] w w') : Keep w w' := by
  intro p v hc
  refine hC.cell hc ?_
  intro hm
  simp at hm
  unfold World.cell? at hc
  obtain ⟨D, ⟨es, clock, h1, _⟩, _⟩ := h
  rw [hm, h1] at hc
  cases hc
theorem Keep.of_chg {w w' : World} (hC : Chg [] w w') : Keep w w' := fun hc => hC.cell hc (by simp)
theorem Keep.trans {a b c : World} (h : Keep a b) (k : Keep b c) : Keep a c := fun hc => k (h hc)
theorem KeysAt.keep {w w' : World} {v : Value} {K : List (List Vl)} (h : KeysAt w v K) (c : Keep w w') : KeysAt w' v K := by
  obtain ⟨A, ca, vs, rfl, hc⟩ := h
  refine ⟨A, ca, vs, rfl, fun j x hx => ?_⟩
  obtain ⟨b, off, ha, h0, A2, c2, he, h1⟩ := hc j x hx
  refine ⟨b, off, ha, c h0, A2, c2, he, fun i y hy => ?_⟩
  obtain ⟨b2, off2, ha2, x0, x1, x2, x3⟩ := h1 i y hy
  exact ⟨b2, off2, ha2, c x0, c x1, c x2, c x3⟩
/-- A group's cells. -/
theorem GAt.cells {w : World} {A : Option Addr} {n c : Nat} {out : List (List Nat)} {vs : List Value} (h : GAt w (.slice A n c) out vs) {g : Nat} (hg : g < out.length) : ∃ gb ub cu l, A = some ⟨gb, 0, none⟩ ∧ out[g]? = some l ∧ w.cell? ⟨gb, g, none⟩ = some (.slice (some ⟨ub, 0, none⟩) l.length cu) ∧ ∀ (t x : Nat), l[t]? = some x → w.cell? ⟨ub, t, none⟩ = some (.int .i64 x) := by
  obtain ⟨l, hl⟩ : ∃ l, out[g]? = some l := ⟨_, List.getElem?_eq_getElem hg⟩
  obtain ⟨u, hu⟩ : ∃ u, vs[g]? = some u := ⟨_, List.getElem?_eq_getElem (by rw [h.len]; exact hg)⟩
  obtain ⟨gb, c', he, hc⟩ := h.cell hu
  injection he with he1 he2 he3
  have hn := h.inn g l u hl hu
  have hne := h.ne l (List.mem_of_getElem? hl)
  obtain ⟨x0, hx0⟩ : ∃ x, l[0]? = some x := ⟨_, List.getElem?_eq_getElem (List.length_pos_iff.2 hne)⟩
  obtain ⟨ub, cu, rfl, _⟩ := hn.cell hx0
  refine ⟨gb, ub, cu, l, he1, hl, hc, fun t x hx => ?_⟩
  obtain ⟨ub', cu', he', hcx⟩ := hn.cell hx
  injection he' with e1 e2 e3
  injection e1 with e1
  injection e1 with e1
  subst e1
  exact hcx

theorem wpList_ilen {w : World} {ops : Array Oper} {rest : List Oper} {o : Oper} {a : Act} {Q : Exit → Act → World → Prop} (hg : o.guard = none) (m : Operand) (hop : o.op = Op.call { callee := Callee.builtin Builtin.len, args := #[m], argTypes := #[41] })
    (b n s : Nat) (f : Nat → Nat) (p : Nat → Bool) (hm : a.eval m = .map (some b)) (hS : IMap w b n f p s)
    (hK : wpList Try.prog ops Q rest (a.put o.dst (.int .i64 (s : Int))) w) : wpList Try.prog ops Q (o :: rest) a w := by
  refine wpList_plain hg fun K' hK' => ?_
  unfold Oper.wp
  simp [execOp, hop, resolve, invoke, builtin, hm, hS.len o.type, Result.andThen]
  exact hK' _ _ hK
end Go.Proofs.Ytkdhhafoohnlnaa
