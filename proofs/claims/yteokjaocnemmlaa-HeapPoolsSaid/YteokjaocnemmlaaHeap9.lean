/-
  A heap, its pool, and a list of places that the law keeps: what is known of them together.
-/
import Derived.Test.YteokjaocnemmlaaHeapP
import Derived.OwnWalk
namespace Go.Proofs.Yteokjaocnemmlaa
open Go.RowKit

/-- Places as cells. -/
def tids (ps : List (Nat × Nat)) : List Value := ps.flatMap fun q => [.int .i64 q.1, .int .i64 q.2]
theorem tids_length (ps : List (Nat × Nat)) : (tids ps).length = ps.length * 2 := by
  induction ps with
  | nil => rfl
  | cons q ps ih => unfold tids at *; simp only [List.flatMap_cons, List.length_append, List.length_cons, List.length_nil, ih]; omega
theorem tids_app (ps : List (Nat × Nat)) (p s : Nat) : tids ps ++ [.int .i64 p, .int .i64 s] = tids (ps ++ [(p, s)]) := by unfold tids; simp
theorem tids_get {ps : List (Nat × Nat)} {i : Nat} {q : Nat × Nat} (h : ps[i]? = some q) : (tids ps)[2 * i]? = some (.int .i64 q.1) ∧ (tids ps)[2 * i + 1]? = some (.int .i64 q.2) := by
  induction ps generalizing i with
  | nil => simp at h
  | cons x ps ih =>
    cases i with
    | zero => simp at h; subst h; exact ⟨rfl, rfl⟩
    | succ i =>
      have := ih (i := i) (by simpa using h)
      have e : tids (x :: ps) = .int .i64 x.1 :: .int .i64 x.2 :: tids ps := rfl
      rw [e, show 2 * (i + 1) = 2 * i + 1 + 1 by omega]
      simpa using this
theorem Try.info53 : (Try.prog.info? 53).map (fun i => (i.zero, i.size, i.bytes)) = some (some (.agg #[.int .i64 0, .int .i64 0]), 2, 16) := by kernel_rfl
theorem El51 : ElTy Try.prog 51 53 2 16 := by
  obtain ⟨i, hi, hz, hs, hb⟩ := info_parts Try.info53
  exact ⟨i, _, Try.underlying51, hi, hz, hs, hb, rfl, by omega⟩

/-- A heap, its pool, and places in a slice v; all of it lies from B on. -/
structure HS (w : World) (B pl left : Nat) (G : HG) (H : List PL) (v : Value) (ps : List (Nat × Nat)) : Prop where
  heap : HeapAt w pl G H
  pool : PoolAt w pl left
  row : Own w 53 2 v ps.length (tids ps)
  gep : B ≤ pl
  gef : ∀ x, x ∈ G.foot → B ≤ x
  ger : ∀ k, v.ownBlock = some k → B ≤ k
section
variable {w w' : World} {B pl left : Nat} {G : HG} {H : List PL} {v : Value} {ps : List (Nat × Nat)}
theorem HS.row_block (h : HS w B pl left G H v ps) {g : Nat} (hg : v.ownBlock = some g) : ∃ cs, w.heap[g]? = some (.cells cs 53 (0, 0)) := by
  rcases h.row.2 with ⟨he, _⟩ | ⟨g', cap, cur, he, _, hh, _⟩
  · rw [he] at hg; cases hg
  · rw [he] at hg
    injection hg with hg
    subst hg
    exact ⟨_, hh⟩
theorem HS.row_off (h : HS w B pl left G H v ps) {g : Nat} (hg : v.ownBlock = some g) : g ∉ pl :: G.foot := by
  obtain ⟨cs, hc⟩ := h.row_block hg
  intro hm
  rcases List.mem_cons.1 hm with e | e
  · exact ne_of_type hc h.pool (by decide) e
  · rcases mem_foot.1 e with e | e | e | e
    · exact ne_of_type hc h.heap.head (by decide) e
    · obtain ⟨f, hf, _⟩ := h.heap.rooms
      exact ne_of_type hc hf (by decide) e
    · obtain ⟨cs2, hc2⟩ := h.heap.row_block e
      exact ne_of_type hc hc2 (by decide) rfl
    · obtain ⟨L, hL⟩ := h.heap.pageOf e
      obtain ⟨cs2, hc2⟩ := hL.block
      exact ne_of_type hc hc2 (by decide) rfl
theorem HS.still (h : HS w B pl left G H v ps) (hC : Chg [] w w') : HS w' B pl left G H v ps :=
  ⟨h.heap.chg hC (by simp), h.pool.chg hC (by simp), h.row.chg hC (by simp), h.gep, h.gef, h.ger⟩
/-- The heap has turned, the places not. -/
theorem HS.turn {left' : Nat} {G' : HG} {H' : List PL} (h : HS w B pl left G H v ps) (hC : Chg (pl :: G.foot) w w') (hB : B ≤ w.heap.size) (hh : HeapAt w' pl G' H') (hp : PoolAt w' pl left') (hf : ∀ x, x ∈ G'.foot → x ∈ G.foot ∨ w.heap.size ≤ x) : HS w' B pl left' G' H' v ps := by
  refine ⟨hh, hp, h.row.chg hC (fun k hk => h.row_off hk), h.gep, ?_, h.ger⟩
  intro x hx
  rcases hf x hx with e | e
  · exact h.gef x e
  · omega
/-- One more place. -/
theorem HS.app {u : World} {A : Option Addr} {c p s : Nat} (h : HS w B pl left G H v ps) (hB : B ≤ w.heap.size) (a : App (w.alloc (.cells #[.int .i64 p, .int .i64 s] 53)) u 53 2 v (.slice A (ps.length + 1) c) (ps.length + 1) (tids ps ++ [.int .i64 p, .int .i64 s])) : HS u B pl left G H (.slice A (ps.length + 1) c) (ps ++ [(p, s)]) := by
  have hC : Chg v.ownBlock.toList w u := ((Chg.refl _ w).alloc _).trans a.chg
  refine ⟨h.heap.chg hC ?_, h.pool.chg hC ?_, ?_, h.gep, h.gef, ?_⟩
  · intro x hx hm
    rw [Option.mem_toList] at hm
    exact h.row_off hm (List.mem_cons_of_mem _ hx)
  · intro hm
    rw [Option.mem_toList] at hm
    exact h.row_off hm (by simp)
  · have := a.own
    rw [tids_app] at this
    simpa using this
  · intro k hk
    rcases a.at_ k hk with e | e
    · exact h.ger k e
    · simp at e; omega
theorem HS.below (h : HS w B pl left G H v ps) : ∀ x, x ∈ pl :: G.foot → B ≤ x := by
  intro x hx
  rcases List.mem_cons.1 hx with e | e
  · rw [e]; exact h.gep
  · exact h.gef x e
/-- The places' cells. -/
theorem HS.place (h : HS w B pl left G H v ps) {i : Nat} {q : Nat × Nat} (hi : ps[i]? = some q) : ∃ g c, v = .slice (some ⟨g, 0, none⟩) ps.length c ∧ w.cell? ⟨g, 2 * i, none⟩ = some (.int .i64 q.1) ∧ w.cell? ⟨g, 2 * i + 1, none⟩ = some (.int .i64 q.2) := by
  have hl := getElem?_lt hi
  rcases h.row.2 with ⟨_, h2⟩ | ⟨g, cap, cur, he, _⟩
  · omega
  · obtain ⟨h1, h2⟩ := tids_get hi
    have e1 := World.ownsRow.cells h.row (g := g) (by rw [he]; rfl) _ _ h1
    have e2 := World.ownsRow.cells h.row (g := g) (by rw [he]; rfl) _ _ h2
    rw [Go.WideShapes.add_plain] at e1 e2
    simp only [Nat.zero_add] at e1 e2
    exact ⟨g, cap, he, e1, e2⟩
end
end Go.Proofs.Yteokjaocnemmlaa
