/-
  Steps of a region that draws its order, taken by hand: an operation that is not wanted; one that yields; a call.
-/
import Derived.Test.YtkdhhafoohnlnaaKeys1
namespace Go.Proofs.Ytkdhhafoohnlnaa
open Go.RowKit
section
variable {P : Program} {ops : Array Oper} {Q : Exit → Act → World → Prop} {md : Region.Mode} {S : World → Prop} {i : Nat} {d : Option Nat} {v : Value} {fuel : Nat} {listed : Array Bool} {a : Act} {w : World}
theorem region_skip (hd : (ops[i]?).map (fun o => o.dst) = some d) (hn : (ops[i]?).map (fun o => Region.wanted o (yielded ops a.tmps)) = some false)
    (hs : Region.noSelect ops = true) (hf : Region.free md ops listed i = true) (hr : (Region.ready md ops listed).contains i = true)
    (hQ : ∀ (c : List PanicEntry) (a : Act) (w : World), Q (Exit.panic c) (a.put d undef) w → Q (Exit.panic c) a w) (hS : S w)
    (h : wpAnyH P md ops Q S fuel (listed.setIfInBounds i true) (a.put d undef) w) : wpAnyH P md ops Q S (fuel + 1) listed a w := by
  cases ho : ops[i]? with
  | none => rw [ho] at hd; cases hd
  | some oi =>
    rw [ho] at hd hn
    injection hd with hd
    injection hn with hn
    subst hd
    exact wpAnyH_take ho hs hf hr hQ (.inr ⟨hn, rfl⟩) hS h
theorem region_take (hd : (ops[i]?).map (fun o => o.dst) = some d) (hs : Region.noSelect ops = true) (hf : Region.free md ops listed i = true) (hr : (Region.ready md ops listed).contains i = true)
    (hQ : ∀ (c : List PanicEntry) (a : Act) (w : World), Q (Exit.panic c) (a.put d v) w → Q (Exit.panic c) a w)
    (hy : ∀ oi, ops[i]? = some oi → Region.wanted oi (yielded ops a.tmps) = true ∧ ∀ w, S w → (execOp a.eval oi).run P w = .ok (.value v) w) (hS : S w)
    (h : wpAnyH P md ops Q S fuel (listed.setIfInBounds i true) (a.put d v) w) : wpAnyH P md ops Q S (fuel + 1) listed a w := by
  cases ho : ops[i]? with
  | none => rw [ho] at hd; cases hd
  | some oi =>
    rw [ho] at hd
    injection hd with hd
    subst hd
    exact wpAnyH_take ho hs hf hr hQ (.inl (hy oi ho)) hS h
theorem region_only (hs : (ops[i]?).isSome = true) (hr : Region.ready md ops listed = [i])
    (h : ∀ o, ops[i]? = some o → ∀ K' : Act → World → Prop, (∀ a w, S w → (S w → wpAnyH P md ops Q S fuel (listed.setIfInBounds i true) a w) → K' a w) → if Region.wanted o (yielded ops a.tmps) = true then Oper.wp P o a w K' Q else K' (a.put o.dst undef) w) :
    wpAnyH P md ops Q S (fuel + 1) listed a w := by
  cases ho : ops[i]? with
  | none => rw [ho] at hs; cases hs
  | some oi => exact wpAnyH_ready hr (by simp) (AllReadyH.cons ho (fun K' hK => h oi ho K' hK) AllReadyH.nil)
end
end Go.Proofs.Ytkdhhafoohnlnaa
