/-
  For every bool and every script, lapidarylaw06.RoomPlays returns true, and its arguments read as they did. No condition.
-/
import Derived.Test.YteokjaocnemmlaaRows
import Derived.Test.YteokjaocnemmlaaPlays
import Derived.Test.YteokjaocnemmlaaOpen
namespace Go.Proofs.Yteokjaocnemmlaa
open Go.ChangeShapes Go.WideShapes Go.ChangeAt Go.RowKit Go.Deep

set_option maxRecDepth 100000 in
/-- A script that came in, as the walks want it. -/
theorem open_ops {H : Type} {enc : TypeId × Value → H} {w : World} {base : Nat} {v : Value} {d : DataW H} {ps : List MemPlace} (hval : Value.okWide Try.prog w .any base 31 v) (h : DataW.Trod enc Try.prog w 0 (fun _ => true) true 31 v d ps) :
    ∃ A n cap p r e, v = .slice A n cap ∧ n ≤ cap ∧ cap ≤ maxLen ∧ InOps w A n p r e := by
  obtain ⟨A, n, cap, rfl, h1, h2, h3⟩ := open_structs Try.underlying31 hval h
  have step : ∃ p r e : Nat → Int, ∀ a, A = some a → ∀ i, i < n → w.cell? (a.add (i * 3)) = some (.int .i64 (p i)) ∧ w.cell? (a.add (i * 3 + 1)) = some (.int .i64 (r i)) ∧ w.cell? (a.add (i * 3 + 2)) = some (.int .i64 (e i)) := by
    have each : ∀ i, i < n → ∃ y : Int × Int × Int, ∀ a, A = some a → w.cell? (a.add (i * 3)) = some (.int .i64 y.1) ∧ w.cell? (a.add (i * 3 + 1)) = some (.int .i64 y.2.1) ∧ w.cell? (a.add (i * 3 + 2)) = some (.int .i64 y.2.2) := by
      intro i hi
      obtain ⟨a, ha, hc⟩ := h3 (by omega)
      obtain ⟨cs, m, x, hcs, hlen, ht⟩ := hc i hi
      rw [Try.cells37] at hcs
      obtain ⟨z0, e0, _⟩ := int_field Try.underlying37 ht 0 _ rfl Try.underlying3 Try.cells3
      obtain ⟨z1, e1, _⟩ := int_field Try.underlying37 ht 1 _ rfl Try.underlying3 Try.cells3
      obtain ⟨z2, e2, _⟩ := int_field Try.underlying37 ht 2 _ rfl Try.underlying3 Try.cells3
      refine ⟨⟨z0, z1, z2⟩, fun a' ha' => ?_⟩
      rw [ha] at ha'
      injection ha' with ha'
      subst ha'
      exact ⟨(hcs 0 (by omega)).trans e0, (hcs 1 (by omega)).trans e1, (hcs 2 (by omega)).trans e2⟩
    obtain ⟨y, hy⟩ := choose_lt each
    exact ⟨fun i => (y i).1, fun i => (y i).2.1, fun i => (y i).2.2, fun a ha i hi => hy i hi a ha⟩
  obtain ⟨p, r, e, hy⟩ := step
  refine ⟨A, n, cap, p, r, e, rfl, h1, h2, fun hp => ?_⟩
  obtain ⟨a, rfl, _⟩ := h3 hp
  obtain ⟨b, off, spot⟩ := a
  have h0 := (hy _ rfl 0 hp).1
  have hspot : spot = none := by simpa [Addr.add] using World.cell?_spot h0
  subst hspot
  refine ⟨b, off, rfl, fun j hj => ?_⟩
  have := hy _ rfl j hj
  simp only [add_plain, ← Nat.add_assoc] at this
  exact this

namespace roomPlays
theorem own : ownKnob Try.prog.godebug = none := by kernel_rfl
theorem laidOut : laidOutB Try.prog = true := by kernel_rfl

theorem walk (none : Bool) (A : Option Addr) (n cap : Nat) (p r e : Nat → Int) (w : World) (h : InOps w A n p r e) :
    Calls Try.prog 4 #[.bool none, .slice A n cap] w fun e w' => e = .returned (.bool true) ∧ Below w.heap.size w w' := by
  cases none
  · exact plays_some A n cap p r e w h
  · exact plays_nil A n cap p r e w h

set_option maxRecDepth 100000 in
theorem lifted (os : Os) (started : os.Started) (H : Type) (enc : TypeId × Value → H) :
    ReturnsInHanded {} Try.checked os 4 .any (Rows.roomPlaysSpec.pre6 enc Try.prog Try.f4 Rows.roomPlaysRow.domain false) (Rows.roomPlaysSpec.post enc Try.prog Try.f4 false true false false) := by
  refine returnsInHanded_of_change (C := Try.checked) own started (by kernel_rfl) Try.func4
    (ChangeSpec.witness6 (enc := enc) (C := Try.checked) false ⟨#[], #[.bool false, .slice Option.none 0 0], []⟩ 8 (by kernel_rfl) (by kernel_rfl) (by kernel_rfl) (by kernel_rfl)) ?_
  intro W base args ds gs before hval0 hW hcnd _
  have hval : ∀ (j : Nat) t v, Try.f4.params[j]? = some t → args[j]? = some v → Value.okWide Try.prog W .any base t v := hval0
  have hW' := hW
  obtain ⟨p, q, hA0, hV, rfl, hfz, hnd⟩ := hW
  have hA : DataW.TrodAll enc Try.prog W 0 (fun _ => true) true Try.f4.params.toList args.toList ds p := hA0
  rw [Try.params4] at hA hval
  obtain ⟨v0, vs0, d0, ds0, p0, q0, hargs, rfl, rfl, h0, r0⟩ := trodAll_cons hA
  obtain ⟨v1, vs1, d1, ds1, p1, q1, rfl, rfl, rfl, h1, r1⟩ := trodAll_cons r0
  obtain ⟨rfl, rfl, rfl⟩ := trodAll_nil r1
  obtain rfl : args = #[v0, v1] := by cases args; simp_all
  obtain ⟨rfl, rfl⟩ := trodVars_none hV
  obtain ⟨a0, rfl, rfl, rfl⟩ := open_bool Try.underlying4 (hval 0 4 v0 rfl rfl) h0
  obtain ⟨A, n, cap, x, y, z, rfl, _, _, hin⟩ := open_ops (hval 1 31 v1 rfl rfl) h1
  have lt1 : ∀ x ∈ p1, x.block < W.heap.size := by obtain ⟨m, hm⟩ := h1; exact DataW.trod_lt m _ _ _ hm
  clear hA0 hval0
  refine (walk a0 A n cap x y z W hin).mono fun e W' ⟨he, bel⟩ => ?_
  subst he
  exact ⟨_, rfl, _, _, _, [], _, [], hW', trodAll_mk1 (shut_bool Try.underlying4 _), (trodAll_cons_mk (shut_bool Try.underlying4 _) (trodAll_cons_mk (Below.trod laidOut (by kernel_rfl) (of_decide_eq_true (by kernel_rfl)) h1 bel lt1) trodAll_mk0)), rfl, bel.frame _, fun h => by cases h⟩

theorem over : Rows.roomPlaysRow.holds Try.pinned (OpenSpec.ofChange Rows.roomPlaysSpec) :=
  OpenClaim.holds_of_wide 4 Try.f4 rfl rfl rfl rfl rfl rfl rfl ⟨rfl, rfl, rfl, rfl, rfl⟩ rfl rfl rfl rfl rfl (by kernel_rfl) Try.func4 (by kernel_rfl)
    (of_decide_eq_true (by kernel_rfl)) (by unfold Func.isWrapper; first | (rw [if_pos (by decide +kernel)]; kernel_rfl) | (rw [if_neg (by decide +kernel)]; exact ⟨rfl, rfl⟩))
    (fun os started H enc _ => lifted os started H enc)

theorem proved : Rows.RoomPlaysSaid := over
#print axioms proved
end roomPlays
end Go.Proofs.Yteokjaocnemmlaa
