/-
  A script of rooms that came in, opened to cells.
-/
import Derived.Test.YteokjaocnemmlaaPlays
import Derived.Test.YteokjaocnemmlaaOpen
namespace Go.Proofs.Yteokjaocnemmlaa
open Go.ChangeShapes Go.WideShapes Go.ChangeAt Go.RowKit Go.Deep

set_option maxRecDepth 100000 in
/-- A script that came in, as the walks want it. -/
theorem open_ops {H : Type} {enc : TypeId × Value → H} {w : World} {base : Nat} {v : Value} {d : DataW H} {ps : List MemPlace} (hval : Value.okWide Try.prog w .any base 31 v) (h : DataW.Trod enc Try.prog w 0 (fun _ => true) true 31 v d ps) :
    ∃ A n cap p r e, v = .slice A n cap ∧ n ≤ cap ∧ cap ≤ maxLen ∧ InOps w A n p r e := by
  obtain ⟨A, n, cap, rfl, h1, h2, h3⟩ := open_structs Try.underlying31 hval h
  have step : ∃ p r e : Nat → Int, ∀ a, A = some a → ∀ i, i < n → w.cell? (a.add (i * 3)) = some (.int .i64 (p i)) ∧ w.cell? (a.add (i * 3 + 1)) = some (.int .i64 (r i)) ∧ w.cell? (a.add (i * 3 + 2)) = some (.int .i64 (e i)) := by
    have each : ∀ i, i < n → ∃ y : Int × Int × Int, ∀ a, A = some a → w.cell? (a.add (i * 3)) = some (.int .i64 y.1) ∧ w.cell? (a.add (i * 3 + 1)) = some (.int .i64 y.2.1) ∧ w.cell? (a.add (i * 3 + 2)) = some (.int .i64 y.2.2) := by
      intro i hi
      obtain ⟨a, ha, hc⟩ := h3 (by omega)
      obtain ⟨cs, m, x, hcs, hlen, ht⟩ := hc i hi
      rw [Try.cells37] at hcs
      obtain ⟨z0, e0, _⟩ := int_field Try.underlying37 ht 0 _ rfl Try.underlying3 Try.cells3
      obtain ⟨z1, e1, _⟩ := int_field Try.underlying37 ht 1 _ rfl Try.underlying3 Try.cells3
      obtain ⟨z2, e2, _⟩ := int_field Try.underlying37 ht 2 _ rfl Try.underlying3 Try.cells3
      refine ⟨⟨z0, z1, z2⟩, fun a' ha' => ?_⟩
      rw [ha] at ha'
      injection ha' with ha'
      subst ha'
      exact ⟨(hcs 0 (by omega)).trans e0, (hcs 1 (by omega)).trans e1, (hcs 2 (by omega)).trans e2⟩
    obtain ⟨y, hy⟩ := choose_lt each
    exact ⟨fun i => (y i).1, fun i => (y i).2.1, fun i => (y i).2.2, fun a ha i hi => hy i hi a ha⟩
  obtain ⟨p, r, e, hy⟩ := step
  refine ⟨A, n, cap, p, r, e, rfl, h1, h2, fun hp => ?_⟩
  obtain ⟨a, rfl, _⟩ := h3 hp
  obtain ⟨b, off, spot⟩ := a
  have h0 := (hy _ rfl 0 hp).1
  have hspot : spot = none := by simpa [Addr.add] using World.cell?_spot h0
  subst hspot
  refine ⟨b, off, rfl, fun j hj => ?_⟩
  have := hy _ rfl j hj
  simp only [add_plain, ← Nat.add_assoc] at this
  exact this

end Go.Proofs.Yteokjaocnemmlaa
