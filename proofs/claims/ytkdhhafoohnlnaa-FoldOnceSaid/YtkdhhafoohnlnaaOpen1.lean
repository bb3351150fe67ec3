/-
  Arguments opened to cells: rows of rows of values; truth values.
-/
import Derived.Test.YtkdhhafoohnlnaaRows
import Derived.Test.YtkdhhafoohnlnaaGrp2
import Derived.ProofKit
import Derived.OpenShut
import Derived.Deep.Slices
namespace Go.Proofs.Ytkdhhafoohnlnaa
open Go.ChangeShapes Go.WideShapes Go.ChangeAt Go.RowKit Go.Deep

theorem choose_upto {α : Type} [Inhabited α] {n : Nat} {R : Nat → α → Prop} (h : ∀ i, i < n → ∃ y, R i y) : ∃ y : Nat → α, ∀ i, i < n → R i (y i) := by
  induction n with
  | zero => exact ⟨fun _ => default, by intro i hi; omega⟩
  | succ n ih =>
    obtain ⟨y, hy⟩ := ih (fun i hi => h i (by omega))
    obtain ⟨z, hz⟩ := h n (by omega)
    refine ⟨fun i => if i = n then z else y i, fun i hi => ?_⟩
    by_cases e : i = n
    · subst e; simpa using hz
    · simp only [if_neg e]; exact hy i (by omega)
section
variable {H : Type} {enc : TypeId × Value → H} {P : Program} {w : World} {base : Nat} {spare : Nat → Bool} {held : Bool}
theorem field_trod {e : TypeId} {fs : Array Field} {fuel : Nat} {cs : List Value} {x : DataW H × List MemPlace} (he : P.underlying e = some (.struct fs)) (h : DataW.trod enc P w base spare held fuel e cs = some x)
    (i : Nat) (f : Field) (hf : fs[i]? = some f) : ∃ n y, DataW.trod enc P w base spare held n f.type ((cs.drop f.offset).take (P.cellsOf f.type)) = some y := by
  obtain ⟨xs, n, _, _, _, hl, hg⟩ := DataW.trod_struct he h
  have hi : i < xs.length := by rw [hl]; exact (Array.getElem?_eq_some_iff.1 hf).1
  exact ⟨n, xs[i], by rw [hg i f hf, List.getElem?_eq_getElem hi]⟩
theorem head_field {cs : List Value} {o : Nat} {u : Value} (h : (cs.drop o).take 1 = [u]) : cs[o]? = some u := by
  have := congrArg List.head? h
  simpa [List.head?_take, List.head?_drop] using this
theorem int_field {e : TypeId} {fs : Array Field} {fuel : Nat} {cs : List Value} {x : DataW H × List MemPlace} {k : IntKind} (he : P.underlying e = some (.struct fs)) (h : DataW.trod enc P w base spare held fuel e cs = some x)
    (i : Nat) (f : Field) (hf : fs[i]? = some f) (hk : P.underlying f.type = some (.int k)) (hc : P.cellsOf f.type = 1) : ∃ z, cs[f.offset]? = some (.int k z) ∧ (Lit.int k z).wf = true := by
  obtain ⟨n, y, hy⟩ := field_trod he h i f hf
  rw [hc] at hy
  obtain ⟨z, h1, _, h2⟩ := DataW.trod_int hk hy
  exact ⟨z, head_field h1, h2⟩
theorem str_field {e : TypeId} {fs : Array Field} {fuel : Nat} {cs : List Value} {x : DataW H × List MemPlace} (he : P.underlying e = some (.struct fs)) (h : DataW.trod enc P w base spare held fuel e cs = some x)
    (i : Nat) (f : Field) (hf : fs[i]? = some f) (hk : P.underlying f.type = some .string) (hc : P.cellsOf f.type = 1) : ∃ z, cs[f.offset]? = some (.string z) := by
  obtain ⟨n, y, hy⟩ := field_trod he h i f hf
  rw [hc] at hy
  obtain ⟨z, h1, _, h2⟩ := DataW.trod_string hk hy
  exact ⟨z, head_field h1⟩
theorem bool_field {e : TypeId} {fs : Array Field} {fuel : Nat} {cs : List Value} {x : DataW H × List MemPlace} (he : P.underlying e = some (.struct fs)) (h : DataW.trod enc P w base spare held fuel e cs = some x)
    (i : Nat) (f : Field) (hf : fs[i]? = some f) (hk : P.underlying f.type = some .bool) (hc : P.cellsOf f.type = 1) : ∃ z, cs[f.offset]? = some (.bool z) := by
  obtain ⟨n, y, hy⟩ := field_trod he h i f hf
  rw [hc] at hy
  obtain ⟨z, h1, _⟩ := DataW.trod_bool hk hy
  exact ⟨z, head_field h1⟩
end
theorem Try.cells39 : Try.prog.cellsOf 39 = 4 := by kernel_rfl
theorem Try.cells37 : Try.prog.cellsOf 37 = 1 := by kernel_rfl
theorem Try.cells2 : Try.prog.cellsOf 2 = 1 := by kernel_rfl
theorem Try.cells9 : Try.prog.cellsOf 9 = 1 := by kernel_rfl
theorem Try.cells4 : Try.prog.cellsOf 4 = 1 := by kernel_rfl
theorem Try.cells34 : Try.prog.cellsOf 34 = 1 := by kernel_rfl

section
variable {H : Type} {enc : TypeId × Value → H} {w : World} {base : Nat} {spare : Nat → Bool} {held : Bool}
instance : Inhabited Vl := ⟨Vl.zero⟩
theorem open_vl {fuel : Nat} {cs : List Value} {x : DataW H × List MemPlace} (h : DataW.trod enc Try.prog w base spare held fuel 39 cs = some x) :
    ∃ v : Vl, cs[0]? = some (.int .u8 v.k) ∧ cs[1]? = some (.int .i64 v.i) ∧ cs[2]? = some (.string v.s) ∧ cs[3]? = some (.bool v.b) := by
  obtain ⟨z0, e0, f0⟩ := int_field Try.underlying39 h 0 _ rfl Try.underlying37 Try.cells37
  obtain ⟨z1, e1, _⟩ := int_field Try.underlying39 h 1 _ rfl Try.underlying2 Try.cells2
  obtain ⟨z2, e2⟩ := str_field Try.underlying39 h 2 _ rfl Try.underlying9 Try.cells9
  obtain ⟨z3, e3⟩ := bool_field Try.underlying39 h 3 _ rfl Try.underlying4 Try.cells4
  have hz : (z0.toNat : Int) = z0 := by
    unfold Lit.wf at f0
    simp only [Bool.and_eq_true, decide_eq_true_eq] at f0
    have : (0 : Int) ≤ z0 := f0.1
    omega
  exact ⟨⟨z0.toNat, z1, z2, z3⟩, by rw [← hz] at e0; exact e0, e1, e2, e3⟩
theorem open_row {fuel : Nat} {u : Value} {x : DataW H × List MemPlace} (h : DataW.trod enc Try.prog w base spare held fuel 34 [u] = some x) : ∃ l, RowAt w u l := by
  rcases open_slice Try.underlying34 h with ⟨hcs, _⟩ | ⟨a, len, cap, m, n, D, Pl, hcs, _, hl, hm, hmm, _, hx⟩
  · injection hcs with hcs
    subst hcs
    exact ⟨[], none, 0, rfl, by simp⟩
  · injection hcs with hcs
    subst hcs
    have each : ∀ i, i < len → ∃ y : Vl, w.cell? (a.add (i * 4)) = some (.int .u8 y.k) ∧ w.cell? (a.add (i * 4 + 1)) = some (.int .i64 y.i) ∧ w.cell? (a.add (i * 4 + 2)) = some (.string y.s) ∧ w.cell? (a.add (i * 4 + 3)) = some (.bool y.b) := by
      intro i hi
      obtain ⟨cs, h1, h2⟩ := hx i (by rw [hmm]; split <;> omega)
      obtain ⟨_, h3, h4⟩ := World.cells?_some h1
      rw [Try.cells39] at h3 h4
      obtain ⟨y, e0, e1, e2, e3⟩ := open_vl h2
      have k : ∀ j, j < 4 → w.cell? (a.add (i * 4 + j)) = cs[j]? := fun j hj => by rw [← add_add]; exact h4 j hj
      exact ⟨y, (k 0 (by omega)).trans e0, (k 1 (by omega)).trans e1, (k 2 (by omega)).trans e2, (k 3 (by omega)).trans e3⟩
    obtain ⟨y, hy⟩ := choose_upto each
    refine ⟨(List.range len).map y, some a, cap, by simp, fun j v hv => ?_⟩
    have hj := getElem?_lt hv
    simp at hj
    rw [List.getElem?_map, List.getElem?_range hj] at hv
    injection hv with hv
    subst hv
    obtain ⟨h0, h1, h2, h3⟩ := hy j hj
    obtain ⟨b, off, spot⟩ := a
    have hspot : spot = none := by simpa [Addr.add] using World.cell?_spot (hy 0 (by omega)).1
    subst hspot
    simp only [add_plain, ← Nat.add_assoc] at h0 h1 h2 h3
    exact ⟨b, off, rfl, h0, h1, h2, h3⟩
theorem open_keys {r : Reach} {b0 : Nat} {v : Value} {d : DataW H} {ps : List MemPlace} (hval : Value.okWide Try.prog w r b0 22 v) (h : DataW.Trod enc Try.prog w base spare held 22 v d ps) : ∃ K, KeysAt w v K := by
  obtain ⟨a0, len0, cap0, rfl⟩ := okWide_slice Try.underlying22 hval
  obtain ⟨fuel, hf⟩ := h
  rcases open_slice Try.underlying22 hf with ⟨hcs, _⟩ | ⟨a, len, cap, m, n, D, Pl, hcs, _, hl, hm, hmm, _, hx⟩
  · simp [Value.cells] at hcs
    obtain ⟨rfl, rfl, rfl⟩ := hcs
    exact ⟨[], none, 0, fun _ => .bool false, rfl, by simp⟩
  · simp [Value.cells] at hcs
    obtain ⟨rfl, rfl, rfl⟩ := hcs
    have each : ∀ i, i < len0 → ∃ y : Value × List Vl, w.cell? (a.add i) = some y.1 ∧ RowAt w y.1 y.2 := by
      intro i hi
      obtain ⟨cs, h1, h2⟩ := hx i (by rw [hmm]; split <;> omega)
      obtain ⟨_, h3, h4⟩ := World.cells?_some h1
      rw [Try.cells34] at h3 h4
      match cs, h3, h4, h2 with
      | [u], _, h4, h2 =>
        obtain ⟨l, hl⟩ := open_row h2
        refine ⟨⟨u, l⟩, ?_, hl⟩
        have := h4 0 (by omega)
        rw [add_add] at this
        simpa using this
    haveI : Inhabited (Value × List Vl) := ⟨.bool false, []⟩
    obtain ⟨y, hy⟩ := choose_upto each
    refine ⟨(List.range len0).map fun i => (y i).2, some a, cap0, fun i => (y i).1, by simp, fun j v hv => ?_⟩
    have hj := getElem?_lt hv
    simp at hj
    rw [List.getElem?_map, List.getElem?_range hj] at hv
    injection hv with hv
    subst hv
    obtain ⟨h0, h1⟩ := hy j hj
    obtain ⟨b, off, spot⟩ := a
    have hspot : spot = none := by simpa [Addr.add] using World.cell?_spot (hy 0 (by omega)).1
    subst hspot
    simp only [add_plain] at h0
    exact ⟨b, off, rfl, h0, h1⟩
theorem open_bools {r : Reach} {b0 : Nat} {v : Value} {d : DataW H} {ps : List MemPlace} (hval : Value.okWide Try.prog w r b0 30 v) (h : DataW.Trod enc Try.prog w base spare held 30 v d ps) : ∃ l, BoolAt w v l := by
  obtain ⟨a0, len0, cap0, rfl⟩ := okWide_slice Try.underlying30 hval
  obtain ⟨fuel, hf⟩ := h
  rcases open_slice Try.underlying30 hf with ⟨hcs, _⟩ | ⟨a, len, cap, m, n, D, Pl, hcs, _, hl, hm, hmm, _, hx⟩
  · simp [Value.cells] at hcs
    obtain ⟨rfl, rfl, rfl⟩ := hcs
    exact ⟨[], none, 0, rfl, by simp⟩
  · simp [Value.cells] at hcs
    obtain ⟨rfl, rfl, rfl⟩ := hcs
    have each : ∀ i, i < len0 → ∃ y : Bool, w.cell? (a.add i) = some (.bool y) := by
      intro i hi
      obtain ⟨cs, h1, h2⟩ := hx i (by rw [hmm]; split <;> omega)
      obtain ⟨_, h3, h4⟩ := World.cells?_some h1
      rw [Try.cells4] at h3 h4
      obtain ⟨b, rfl, _⟩ := DataW.trod_bool Try.underlying4 h2
      refine ⟨b, ?_⟩
      have := h4 0 (by omega)
      rw [add_add] at this
      simpa using this
    obtain ⟨y, hy⟩ := choose_upto each
    refine ⟨(List.range len0).map y, some a, cap0, by simp, fun j v hv => ?_⟩
    have hj := getElem?_lt hv
    simp at hj
    rw [List.getElem?_map, List.getElem?_range hj] at hv
    injection hv with hv
    subst hv
    have h0 := hy j hj
    obtain ⟨b, off, spot⟩ := a
    have hspot : spot = none := by simpa [Addr.add] using World.cell?_spot (hy 0 (by omega))
    subst hspot
    simp only [add_plain] at h0
    exact ⟨b, off, rfl, h0⟩
end
end Go.Proofs.Ytkdhhafoohnlnaa
