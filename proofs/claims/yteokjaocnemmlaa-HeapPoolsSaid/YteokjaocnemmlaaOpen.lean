/-
  Arguments opened to cells: a slice of structs, field by field.
-/
import Derived.Test.YteokjaocnemmlaaRows
import Derived.Test.YteokjaocnemmlaaMem
import Derived.ProofKit
import Derived.OpenShut
import Derived.Deep.Slices
namespace Go.Proofs.Yteokjaocnemmlaa
open Go.ChangeShapes Go.WideShapes Go.ChangeAt Go.RowKit Go.Deep
section
variable {H : Type} {enc : TypeId × Value → H} {P : Program} {w : World} {base : Nat} {spare : Nat → Bool} {held : Bool}
theorem field_trod {e : TypeId} {fs : Array Field} {fuel : Nat} {cs : List Value} {x : DataW H × List MemPlace} (he : P.underlying e = some (.struct fs)) (h : DataW.trod enc P w base spare held fuel e cs = some x)
    (i : Nat) (f : Field) (hf : fs[i]? = some f) : ∃ n y, DataW.trod enc P w base spare held n f.type ((cs.drop f.offset).take (P.cellsOf f.type)) = some y := by
  obtain ⟨xs, n, _, _, _, hl, hg⟩ := DataW.trod_struct he h
  have hi : i < xs.length := by rw [hl]; exact (Array.getElem?_eq_some_iff.1 hf).1
  exact ⟨n, xs[i], by rw [hg i f hf, List.getElem?_eq_getElem hi]⟩
theorem int_field {e : TypeId} {fs : Array Field} {fuel : Nat} {cs : List Value} {x : DataW H × List MemPlace} {k : IntKind} (he : P.underlying e = some (.struct fs)) (h : DataW.trod enc P w base spare held fuel e cs = some x)
    (i : Nat) (f : Field) (hf : fs[i]? = some f) (hk : P.underlying f.type = some (.int k)) (hc : P.cellsOf f.type = 1) : ∃ z, cs[f.offset]? = some (.int k z) ∧ (Lit.int k z).wf = true := by
  obtain ⟨n, y, hy⟩ := field_trod he h i f hf
  rw [hc] at hy
  obtain ⟨z, h1, _, h2⟩ := DataW.trod_int hk hy
  refine ⟨z, ?_, h2⟩
  have := congrArg List.head? h1
  simpa [List.head?_take, List.head?_drop] using this

/-- A slice of structs that came in: nil, or cells at an address; each element's cells, and their reading. -/
theorem open_structs {t e : TypeId} {v : Value} {d : DataW H} {ps : List MemPlace} (ht : P.underlying t = some (.slice e)) (hval : Value.okWide P w .any base t v) (h : DataW.Trod enc P w 0 (fun _ => true) true t v d ps) :
    ∃ A n cap, v = .slice A n cap ∧ n ≤ cap ∧ cap ≤ maxLen ∧ (0 < n → ∃ a, A = some a ∧ ∀ i, i < n → ∃ cs m x, (∀ j, j < P.cellsOf e → w.cell? (a.add (i * P.cellsOf e + j)) = cs[j]?) ∧ cs.length = P.cellsOf e ∧ DataW.trod enc P w 0 (fun _ => true) true m e cs = some x) := by
  obtain ⟨a0, len0, cap0, rfl⟩ := okWide_slice ht hval
  obtain ⟨fuel, hf⟩ := h
  rcases open_slice ht hf with ⟨hcs, _⟩ | ⟨a, len, cap, m, n, D, Pl, hcs, _, hl, hm, hmm, _, hx⟩
  · simp [Value.cells] at hcs
    obtain ⟨rfl, rfl, rfl⟩ := hcs
    exact ⟨none, 0, 0, rfl, Nat.le_refl _, by unfold maxLen; omega, fun h => by omega⟩
  · simp [Value.cells] at hcs
    obtain ⟨rfl, rfl, rfl⟩ := hcs
    refine ⟨some a, _, _, rfl, hl, hm, fun _ => ⟨a, rfl, fun i hi => ?_⟩⟩
    obtain ⟨cs, h1, h2⟩ := hx i (by rw [hmm, if_pos rfl]; omega)
    obtain ⟨_, h3, h4⟩ := World.cells?_some h1
    exact ⟨cs, n, _, fun j hj => by rw [← add_add]; exact h4 j hj, h3, h2⟩
end

theorem Try.cells37 : Try.prog.cellsOf 37 = 3 := by kernel_rfl
theorem Try.cells3 : Try.prog.cellsOf 3 = 1 := by kernel_rfl

end Go.Proofs.Yteokjaocnemmlaa
