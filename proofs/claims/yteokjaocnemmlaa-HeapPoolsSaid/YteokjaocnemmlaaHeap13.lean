/-
  Insert of whatever version: what it answers, what it leaves.
-/
import Derived.Test.YteokjaocnemmlaaFew1
namespace Go.Proofs.Yteokjaocnemmlaa
open Go.RowKit

def Tup.right (t : Tup) : Bool := rightB t.row t.xmin t.xmax t.np t.ns t.data.length
/-- What one more does, whatever it is. -/
inductive InsA (H : List PL) (t : Tup) : Nat → Int → Int → Int → List PL → Nat → Prop
  | bad (left : Nat) (hb : t.right = false) : InsA H t left 3 0 0 H left
  | old (left i : Nat) (L : PL) (hb : t.right = true) (hi : H[i]? = some L) (hr : (t.data.length : Int) ≤ room L) (hf : ∀ (j : Nat) (L' : PL), j < i → H[j]? = some L' → room L' < (t.data.length : Int)) : InsA H t left 0 i (freeSlot L) (H.set i (ins L t)) left
  | full (hb : t.right = true) (hr : ∀ (i : Nat) (L : PL), H[i]? = some L → room L < (t.data.length : Int)) : InsA H t 0 12 0 0 H 0
  | new (left : Nat) (hb : t.right = true) (hr : ∀ (i : Nat) (L : PL), H[i]? = some L → room L < (t.data.length : Int)) : InsA H t (left + 1) 0 H.length 0 (H ++ [ins [] t]) left
theorem InsA.sum {H H' : List PL} {t : Tup} {left left' : Nat} {code p s : Int} (h : InsA H t left code p s H' left') : H'.length + left' = H.length + left := by
  cases h <;> simp
  omega
theorem Tup.ok_of {t : Tup} (h : t.right = true) (h0 : 0 ≤ t.row) (h1 : 0 ≤ t.xmin) (h2 : 0 ≤ t.xmax) (hb : ∀ x, x ∈ t.data → 0 ≤ x ∧ x ≤ 255) : t.Ok := by
  unfold Tup.right rightB at h
  simp only [Bool.and_eq_true, decide_eq_true_eq, Bool.not_eq_true'] at h
  obtain ⟨⟨h3, h4⟩, h5⟩ := h
  exact ⟨⟨h0, by omega⟩, ⟨h1, by omega⟩, ⟨h2, by omega⟩, h4, by omega, hb⟩
theorem hins_all {w : World} {pl left : Nat} {G : HG} {H : List PL} (h : HeapAt w pl G H) (hpool : PoolAt w pl left) (h256 : H.length + left ≤ 256) (t : Tup) (A : Option Addr) (n c : Nat) (hn : n = t.data.length) (h0 : 0 ≤ t.row) (h1 : 0 ≤ t.xmin) (h2 : 0 ≤ t.xmax) (hb : ∀ x, x ∈ t.data → 0 ≤ x ∧ x ≤ 255)
    (hsd : ∀ k, (Value.slice A n c).ownBlock = some k → k ∉ pl :: G.foot) (hsrc : Src1 w 1 (.slice A n c) n (bvals t.data)) :
    Calls Try.prog 24 #[.pointer (some ⟨G.hb, 0, none⟩), .agg #[.int .u64 t.row, .int .u64 t.xmin, .int .u64 t.xmax, .int .i64 t.np, .int .i64 t.ns, .slice A n c]] w fun e w' =>
      ∃ code p s H' left' G', e = .returned (.tuple #[V53 p s, .int .i64 code]) ∧ InsA H t left code p s H' left' ∧ G'.hb = G.hb ∧ HeapAt w' pl G' H' ∧ PoolAt w' pl left' ∧ (∀ x, x ∈ G'.foot → x ∈ G.foot ∨ w.heap.size ≤ x) ∧ Chg (pl :: G.foot) w w' := by
  have hplf := h.pl_ne hpool
  cases hrt : t.right with
  | false =>
    refine (hinsert_bad G.hb t A n c w (by rw [hn]; exact hrt)).mono ?_
    rintro e w' ⟨rfl, h1⟩
    exact ⟨3, 0, 0, H, left, G, rfl, .bad left hrt, rfl, h.chg h1 (by simp), hpool.chg h1 (by simp), fun x hx => .inl hx, h1.mono (by simp)⟩
  | true =>
    have ho := Tup.ok_of hrt h0 h1 h2 hb
    cases hf : findAt (H.map room) n with
    | some i =>
      obtain ⟨L, hL, hr, hfst⟩ := find_room hf
      refine (hinsert_old h t A n c i L hn ho hsrc (by unfold findOk; rw [hf]; rfl) (by unfold findPos; rw [hf]; rfl) hL hr).mono ?_
      rintro e w' ⟨rfl, h1, h2⟩
      exact ⟨0, i, freeSlot L, _, left, G, rfl, .old left i L hrt hL (by rw [← hn]; exact hr) (fun j L' hj hL' => by rw [← hn]; exact hfst j L' hj hL'), rfl, h1, hpool.chg h2 hplf, fun x hx => .inl hx, h2.mono (fun x hx => List.mem_cons_of_mem _ hx)⟩
    | none =>
      have hr := find_noroom hf
      rw [hn] at hr
      cases left with
      | zero =>
        refine (hinsert_full h hpool t A n c _ hn ho hsrc (by unfold findOk; rw [hf]; rfl) rfl).mono ?_
        rintro e w' ⟨rfl, h1⟩
        exact ⟨12, 0, 0, H, 0, G, rfl, .full hrt hr, rfl, h.chg h1 (by simp), hpool.chg h1 (by simp), fun x hx => .inl hx, h1.mono (by simp)⟩
      | succ left =>
        refine (hinsert_new h hpool t A n c _ hsd hn ho hsrc (by unfold findOk; rw [hf]; rfl) rfl h256).mono ?_
        rintro e w' ⟨rfl, ⟨G', h1, h2, h3⟩, h4, h5⟩
        exact ⟨0, H.length, 0, _, left, G', rfl, .new left hrt hr, h1, h2, h4, h3, h5⟩

/-! ### two heaps of one pool -/
structure Two (w : World) (B pl : Nat) (G0 G1 : HG) (H0 H1 : List PL) (left : Nat) : Prop where
  h0 : HeapAt w pl G0 H0
  h1 : HeapAt w pl G1 H1
  pool : PoolAt w pl left
  dis : ∀ x, x ∈ G0.foot → x ∉ G1.foot
  gep : B ≤ pl
  g0 : ∀ x, x ∈ G0.foot → B ≤ x
  g1 : ∀ x, x ∈ G1.foot → B ≤ x
section
variable {w w' : World} {B pl left left' : Nat} {G0 G1 G' : HG} {H0 H1 H' : List PL}
theorem Two.swap (h : Two w B pl G0 G1 H0 H1 left) : Two w B pl G1 G0 H1 H0 left := ⟨h.h1, h.h0, h.pool, fun x h1 h0 => h.dis x h0 h1, h.gep, h.g1, h.g0⟩
theorem Two.still (h : Two w B pl G0 G1 H0 H1 left) (hC : Chg [] w w') : Two w' B pl G0 G1 H0 H1 left :=
  ⟨h.h0.chg hC (by simp), h.h1.chg hC (by simp), h.pool.chg hC (by simp), h.dis, h.gep, h.g0, h.g1⟩
theorem Two.turn (h : Two w B pl G0 G1 H0 H1 left) {S : List Nat} (hC : Chg S w w') (hS : ∀ x, x ∈ S → x ∈ pl :: G0.foot) (hB : B ≤ w.heap.size) (hh : HeapAt w' pl G' H') (hp : PoolAt w' pl left') (hf : ∀ x, x ∈ G'.foot → x ∈ G0.foot ∨ w.heap.size ≤ x) : Two w' B pl G' G1 H' H1 left' := by
  refine ⟨hh, h.h1.chg hC ?_, hp, ?_, h.gep, ?_, h.g1⟩
  · intro x hx hm
    rcases List.mem_cons.1 (hS x hm) with rfl | e
    · exact h.h1.pl_ne h.pool hx
    · exact h.dis x e hx
  · intro x hx hm
    rcases hf x hx with e | e
    · exact h.dis x e hm
    · have := h.h1.lt x hm; omega
  · intro x hx
    rcases hf x hx with e | e
    · exact h.g0 x e
    · omega
/-- A block of another type is none of theirs. -/
theorem Two.off (h : Two w B pl G0 G1 H0 H1 left) {T u : Nat} {cs : Array Value} (hT : w.heap[T]? = some (.cells cs u (0, 0))) (h1 : u ≠ 99) (h2 : u ≠ 102) (h3 : u ≠ 97) (h4 : u ≠ 104) (h5 : u ≠ 134) : T ∉ pl :: G0.foot := by
  intro hm
  rcases List.mem_cons.1 hm with e | e
  · exact ne_of_type hT h.pool h1 e
  · rcases mem_foot.1 e with e | e | e | e
    · exact ne_of_type hT h.h0.head h2 e
    · obtain ⟨f, hf, _⟩ := h.h0.rooms
      exact ne_of_type hT hf h3 e
    · obtain ⟨cs2, hc2⟩ := h.h0.row_block e
      exact ne_of_type hT hc2 h4 rfl
    · obtain ⟨L, hL⟩ := h.h0.pageOf e
      obtain ⟨cs2, hc2⟩ := hL.block
      exact ne_of_type hT hc2 h5 rfl
theorem Two.below (h : Two w B pl G0 G1 H0 H1 left) : ∀ x, x ∈ pl :: G0.foot → B ≤ x := by
  intro x hx
  rcases List.mem_cons.1 hx with rfl | e
  · exact h.gep
  · exact h.g0 x e
end
end Go.Proofs.Yteokjaocnemmlaa
