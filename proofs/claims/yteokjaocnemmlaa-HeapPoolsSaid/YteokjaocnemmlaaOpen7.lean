/-
  A script of calls of heaps that came in, opened to cells.
-/
import Derived.Test.YteokjaocnemmlaaFew1
import Derived.Test.YteokjaocnemmlaaOpen
namespace Go.Proofs.Yteokjaocnemmlaa
open Go.ChangeShapes Go.WideShapes Go.ChangeAt Go.RowKit Go.Deep

/-- A call of the script. -/
structure OpV where
  d : Nat
  two : Bool
  p : Int
  s : Int
  t : Tup
  A : Option Addr
  n : Nat
  c : Nat
instance : Inhabited OpV := ⟨⟨0, false, 0, 0, ⟨0, 0, 0, 0, 0, []⟩, none, 0, 0⟩⟩
/-- .. its ten cells; its version's bytes. -/
structure OpAt (w : World) (b off : Nat) (o : OpV) : Prop where
  c0 : w.cell? ⟨b, off, none⟩ = some (.int .u8 o.d)
  c1 : w.cell? ⟨b, off + 1, none⟩ = some (.bool o.two)
  c2 : w.cell? ⟨b, off + 2, none⟩ = some (.int .i64 o.p)
  c3 : w.cell? ⟨b, off + 3, none⟩ = some (.int .i64 o.s)
  c4 : w.cell? ⟨b, off + 4, none⟩ = some (.int .u64 o.t.row)
  c5 : w.cell? ⟨b, off + 5, none⟩ = some (.int .u64 o.t.xmin)
  c6 : w.cell? ⟨b, off + 6, none⟩ = some (.int .u64 o.t.xmax)
  c7 : w.cell? ⟨b, off + 7, none⟩ = some (.int .i64 o.t.np)
  c8 : w.cell? ⟨b, off + 8, none⟩ = some (.int .i64 o.t.ns)
  c9 : w.cell? ⟨b, off + 9, none⟩ = some (.slice o.A o.n o.c)
  wd : o.d ≤ 255
  wp : (Lit.int .i64 o.p).wf = true
  ws : (Lit.int .i64 o.s).wf = true
  wr : (Lit.int .u64 o.t.row).wf = true
  wx : (Lit.int .u64 o.t.xmin).wf = true
  wy : (Lit.int .u64 o.t.xmax).wf = true
  wnp : (Lit.int .i64 o.t.np).wf = true
  wns : (Lit.int .i64 o.t.ns).wf = true
  data : InBytes w o.A o.n o.t.data
  nil : o.A = none → o.n = 0 ∧ o.c = 0
  le : o.n ≤ o.c
  cap : o.c ≤ maxLen
  byte : ∀ x, x ∈ o.t.data → 0 ≤ x ∧ x ≤ 255
def InScr (w : World) (A : Option Addr) (n : Nat) (ops : Nat → OpV) : Prop := 0 < n → ∃ b off, A = some ⟨b, off, none⟩ ∧ ∀ j, j < n → OpAt w b (off + j * 10) (ops j)

theorem Try.cells75 : Try.prog.cellsOf 75 = 10 := by kernel_rfl
theorem Try.cells53 : Try.prog.cellsOf 53 = 2 := by kernel_rfl
theorem Try.cells59 : Try.prog.cellsOf 59 = 6 := by kernel_rfl
theorem Try.cells4 : Try.prog.cellsOf 4 = 1 := by kernel_rfl
theorem Try.cells5 : Try.prog.cellsOf 5 = 1 := by kernel_rfl
theorem Try.cells56 : Try.prog.cellsOf 56 = 1 := by kernel_rfl
theorem Try.cells57 : Try.prog.cellsOf 57 = 1 := by kernel_rfl

section
variable {H : Type} {enc : TypeId × Value → H} {w : World}
/-- A field's reading, at its place. -/
theorem field_at {P : Program} {e : TypeId} {fs : Array Field} {fuel : Nat} {cs : List Value} {x : DataW H × List MemPlace} (he : P.underlying e = some (.struct fs)) (h : DataW.trod enc P w 0 (fun _ => true) true fuel e cs = some x)
    (i : Nat) (f : Field) (hf : fs[i]? = some f) (o k : Nat) (ho : f.offset = o) (hk : P.cellsOf f.type = k) : ∃ n y, DataW.trod enc P w 0 (fun _ => true) true n f.type ((cs.drop o).take k) = some y := by
  subst ho hk
  exact field_trod he h i f hf
theorem take_one {cs : List Value} {o : Nat} {v : Value} (h : (cs.drop o).take 1 = [v]) : cs[o]? = some v := by
  have := congrArg List.head? h
  simpa [List.head?_take, List.head?_drop] using this
theorem sub_get {cs : List Value} {o k j : Nat} {v : Value} (h : ((cs.drop o).take k)[j]? = some v) : cs[o + j]? = some v := by
  rw [List.getElem?_take] at h
  split at h
  · rwa [List.getElem?_drop] at h
  · cases h
theorem open_tid {n : Nat} {cs : List Value} {y : DataW H × List MemPlace} (h : DataW.trod enc Try.prog w 0 (fun _ => true) true n 53 cs = some y) : ∃ p s, cs[0]? = some (.int .i64 p) ∧ cs[1]? = some (.int .i64 s) ∧ (Lit.int .i64 p).wf = true ∧ (Lit.int .i64 s).wf = true := by
  obtain ⟨z0, e0, w0⟩ := int_field Try.underlying53 h 0 _ rfl Try.underlying3 Try.cells3
  obtain ⟨z1, e1, w1⟩ := int_field Try.underlying53 h 1 _ rfl Try.underlying3 Try.cells3
  exact ⟨z0, z1, e0, e1, w0, w1⟩
/-- A version that came in, opened. -/
theorem open_tup {n : Nat} {cs : List Value} {y : DataW H × List MemPlace} (h : DataW.trod enc Try.prog w 0 (fun _ => true) true n 59 cs = some y) :
    ∃ (t : Tup) (A : Option Addr) (m c : Nat), cs[0]? = some (.int .u64 t.row) ∧ cs[1]? = some (.int .u64 t.xmin) ∧ cs[2]? = some (.int .u64 t.xmax) ∧ cs[3]? = some (.int .i64 t.np) ∧ cs[4]? = some (.int .i64 t.ns) ∧ cs[5]? = some (.slice A m c) ∧
      (Lit.int .u64 t.row).wf = true ∧ (Lit.int .u64 t.xmin).wf = true ∧ (Lit.int .u64 t.xmax).wf = true ∧ (Lit.int .i64 t.np).wf = true ∧ (Lit.int .i64 t.ns).wf = true ∧ InBytes w A m t.data ∧ (A = none → m = 0 ∧ c = 0) ∧ m ≤ c ∧ c ≤ maxLen ∧ ∀ x, x ∈ t.data → 0 ≤ x ∧ x ≤ 255 := by
  obtain ⟨z0, e0, w0⟩ := int_field Try.underlying59 h 0 _ rfl Try.underlying56 Try.cells56
  obtain ⟨z1, e1, w1⟩ := int_field Try.underlying59 h 1 _ rfl Try.underlying56 Try.cells56
  obtain ⟨z2, e2, w2⟩ := int_field Try.underlying59 h 2 _ rfl Try.underlying56 Try.cells56
  obtain ⟨_, _, h3⟩ := field_at Try.underlying59 h 3 _ rfl 3 2 rfl Try.cells53
  obtain ⟨p, s, e3, e4, w3, w4⟩ := open_tid h3
  obtain ⟨_, _, h5⟩ := field_at Try.underlying59 h 4 _ rfl 5 1 rfl Try.cells57
  have a3 := sub_get e3
  have a4 := sub_get e4
  rcases open_ints Try.underlying57 Try.underlying5 (by kernel_rfl) h5 with ⟨hcs, _⟩ | ⟨a, l, c, zs, hcs, _, hl, hm, hz, _, hcell, hwz⟩
  · refine ⟨⟨z0, z1, z2, p, s, []⟩, none, 0, 0, e0, e1, e2, a3, a4, take_one hcs, w0, w1, w2, w3, w4, ⟨rfl, by simp [bvals]⟩, fun _ => ⟨rfl, rfl⟩, Nat.le_refl _, Nat.zero_le _, by simp⟩
  · rw [if_pos rfl] at hz
    refine ⟨⟨z0, z1, z2, p, s, zs.take l⟩, some a, l, c, e0, e1, e2, a3, a4, take_one hcs, w0, w1, w2, w3, w4, ⟨by rw [List.length_take]; omega, ?_⟩, by simp, hl, hm, ?_⟩
    · intro j u hu
      unfold bvals at hu
      rw [List.getElem?_map, List.getElem?_take] at hu
      split at hu
      · cases hj : zs[j]? with
        | none => rw [hj] at hu; cases hu
        | some x =>
          rw [hj] at hu
          injection hu with hu
          subst hu
          have hjl := getElem?_lt hj
          obtain ⟨b, off, rfl, hc⟩ := ints_at hcell (by omega)
          refine ⟨b, off, rfl, ?_⟩
          have := hc j hjl
          rw [List.getD_eq_getElem?_getD, hj] at this
          exact this
      · cases hu
    · intro x hx
      exact bounds_u8 (hwz x (List.mem_of_mem_take hx))
set_option maxRecDepth 100000 in
/-- A script that came in, as the walks want it. -/
theorem open_scr {base : Nat} {v : Value} {d : DataW H} {ps : List MemPlace} (hval : Value.okWide Try.prog w .any base 64 v) (h : DataW.Trod enc Try.prog w 0 (fun _ => true) true 64 v d ps) :
    ∃ A n cap ops, v = .slice A n cap ∧ n ≤ cap ∧ cap ≤ maxLen ∧ InScr w A n ops := by
  obtain ⟨A, n, cap, rfl, h1, h2, h3⟩ := open_structs Try.underlying64 hval h
  have step : ∃ ops : Nat → OpV, ∀ i, i < n → ∃ b off, A = some ⟨b, off, none⟩ ∧ OpAt w b (off + i * 10) (ops i) := by
    refine choose_lt (n := n) (p := fun i o => ∃ b off, A = some ⟨b, off, none⟩ ∧ OpAt w b (off + i * 10) o) ?_
    intro i hi
    obtain ⟨a, ha, hc⟩ := h3 (by omega)
    obtain ⟨cs, m, x, hcs, hlen, ht⟩ := hc i hi
    rw [Try.cells75] at hcs
    obtain ⟨z0, e0, w0⟩ := int_field Try.underlying75 ht 0 _ rfl Try.underlying5 Try.cells5
    obtain ⟨_, _, k1⟩ := field_at Try.underlying75 ht 1 _ rfl 1 1 rfl Try.cells4
    obtain ⟨two, e1, _⟩ := DataW.trod_bool Try.underlying4 k1
    obtain ⟨_, _, k2⟩ := field_at Try.underlying75 ht 2 _ rfl 2 2 rfl Try.cells53
    obtain ⟨p, s, e2, e3, w2, w3⟩ := open_tid k2
    obtain ⟨_, _, k4⟩ := field_at Try.underlying75 ht 3 _ rfl 4 6 rfl Try.cells59
    obtain ⟨t, B, l, c, f0, f1, f2, f3, f4, f5, u0, u1, u2, u3, u4, d1, d2, d3, d4, d5⟩ := open_tup k4
    have b8 := bounds_u8 w0
    obtain ⟨d, rfl⟩ := Int.eq_ofNat_of_zero_le b8.1
    have hcell : ∀ j v, cs[j]? = some v → j < 10 → w.cell? (a.add (i * 10 + j)) = some v := fun j v hv hj => (hcs j hj).trans hv
    have hq0 : ∃ v, w.cell? (a.add 0) = some v := by
      obtain ⟨cs', _, _, hcs', hlen', _⟩ := hc 0 (by omega)
      rw [Try.cells75] at hcs' hlen'
      have := hcs' 0 (by omega)
      rw [List.getElem?_eq_getElem (by omega)] at this
      exact ⟨_, this⟩
    obtain ⟨v0, hq0⟩ := hq0
    obtain ⟨b, off, spot⟩ := a
    have hspot : spot = none := by simpa [Addr.add] using World.cell?_spot hq0
    subst hspot
    have hcell2 : ∀ j v, cs[j]? = some v → j < 10 → w.cell? ⟨b, off + i * 10 + j, none⟩ = some v := fun j v hv hj => by
      have := hcell j v hv hj
      rwa [add_plain, ← Nat.add_assoc] at this
    exact ⟨⟨d, two, p, s, t, B, l, c⟩, b, off, ha, ⟨hcell2 0 _ e0 (by omega), hcell2 1 _ (take_one e1) (by omega), hcell2 2 _ (sub_get e2) (by omega), hcell2 3 _ (sub_get e3) (by omega), hcell2 4 _ (sub_get f0) (by omega), hcell2 5 _ (sub_get f1) (by omega), hcell2 6 _ (sub_get f2) (by omega), hcell2 7 _ (sub_get f3) (by omega), hcell2 8 _ (sub_get f4) (by omega), hcell2 9 _ (sub_get f5) (by omega), by show d ≤ 255; omega, w2, w3, u0, u1, u2, u3, u4, d1, d2, d3, d4, d5⟩⟩
  obtain ⟨ops, hy⟩ := step
  refine ⟨A, n, cap, ops, rfl, h1, h2, fun hp => ?_⟩
  obtain ⟨b, off, hA, _⟩ := hy 0 hp
  refine ⟨b, off, hA, fun j hj => ?_⟩
  obtain ⟨b', off', hA', ho⟩ := hy j hj
  rw [hA] at hA'
  injection hA' with e
  injection e with e1 e2
  subst e1 e2
  exact ho
end
end Go.Proofs.Yteokjaocnemmlaa
