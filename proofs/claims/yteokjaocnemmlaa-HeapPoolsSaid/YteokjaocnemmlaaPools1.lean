/-
  The walk of HeapPools.
-/
import Derived.Test.YteokjaocnemmlaaHeap13
import Derived.Test.YteokjaocnemmlaaOpen7
import Derived.Deep.CutBlock
namespace Go.Proofs.Yteokjaocnemmlaa
open Go.RowKit

theorem OpAt.below {w wr : World} {b off : Nat} {o : OpV} (h : OpAt w b off o) (hB : Below w.heap.size w wr) : OpAt wr b off o := by
  have c : ∀ {p : Addr} {v : Value}, w.cell? p = some v → wr.cell? p = some v := fun hc => (hB.cell (World.block_lt_of_cell? _ _ hc)).trans hc
  refine ⟨c h.c0, c h.c1, c h.c2, c h.c3, c h.c4, c h.c5, c h.c6, c h.c7, c h.c8, c h.c9, h.wd, h.wp, h.ws, h.wr, h.wx, h.wy, h.wnp, h.wns, ⟨h.data.1, fun j u hu => ?_⟩, h.nil, h.le, h.cap, h.byte⟩
  obtain ⟨b, off, ha, hc⟩ := h.data.2 j u hu
  exact ⟨b, off, ha, c hc⟩
/-- The version, cut. -/
def OpV.cut (o : OpV) : Tup := { o.t with data := o.t.data.take 230 }

def PlS (w : World) (pl hb0 hb1 ar K : Nat) (wx : World) : Prop :=
  ∃ (G0 G1 : HG) (H0 H1 : List PL) (left : Nat), G0.hb = hb0 ∧ G1.hb = hb1 ∧ Two wx w.heap.size pl G0 G1 H0 H1 left ∧ H0.length + H1.length + left = K ∧ wx.heap[ar]? = some (.cells #[.pointer (some ⟨hb0, 0, none⟩), .pointer (some ⟨hb1, 0, none⟩)] 68 (0, 0)) ∧ Below w.heap.size w wx
section
variable {w wx w' : World} {pl hb0 hb1 ar K : Nat}
theorem PlS.still (h : PlS w pl hb0 hb1 ar K wx) (hC : Chg [] wx w') : PlS w pl hb0 hb1 ar K w' := by
  obtain ⟨G0, G1, H0, H1, left, e0, e1, h2, hs, ha, hB⟩ := h
  exact ⟨G0, G1, H0, H1, left, e0, e1, h2.still hC, hs, hC.heap ha (by simp), hB.trans (hC.below hB.size (by simp))⟩
theorem PlS.size (h : PlS w pl hb0 hb1 ar K wx) : w.heap.size ≤ wx.heap.size := by
  obtain ⟨_, _, _, _, _, _, _, _, _, _, hB⟩ := h
  exact hB.size
/-- One of the two is dropped. -/
theorem drop_first {B left : Nat} {G0 G1 : HG} {H0 H1 : List PL} (h : Two wx B pl G0 G1 H0 H1 left) (hB : B ≤ wx.heap.size) (h256 : H0.length + H1.length + left ≤ 256) :
    Calls Try.prog 33 #[.pointer (some ⟨G0.hb, 0, none⟩)] wx fun e w' => e = .returned (.int .i64 H0.length) ∧ (∃ G', G'.hb = G0.hb ∧ Two w' B pl G' G1 [] H1 (left + H0.length)) ∧ Chg (pl :: G0.foot) wx w' := by
  refine (hdrop h.h0 h.pool (by omega)).mono ?_
  rintro e w' ⟨rfl, ⟨rb, hrb, hh⟩, hp, hC⟩
  have hS : ∀ x, x ∈ [pl, G0.hb] → x ∈ pl :: G0.foot := by
    intro x hx
    simp only [List.mem_cons, List.not_mem_nil, or_false] at hx
    rcases hx with rfl | rfl
    · simp
    · exact List.mem_cons_of_mem _ (mem_foot.2 (.inl rfl))
  refine ⟨rfl, ⟨⟨G0.hb, rb, .slice none 0 0, []⟩, rfl, h.turn hC hS hB hh hp ?_⟩, hC.mono hS⟩
  intro x hx
  rcases mem_foot.1 hx with e | e | e | e
  · exact .inl (mem_foot.2 (.inl e))
  · exact .inr (by simp at e; omega)
  · simp [Value.ownBlock] at e
  · simp at e
theorem drop_pl (h : PlS w pl hb0 hb1 ar K wx) (hK : K ≤ 256) (x : Nat) (hx : x = hb0 ∨ x = hb1) : Calls Try.prog 33 #[.pointer (some ⟨x, 0, none⟩)] wx fun e w' => (∃ m : Nat, e = .returned (.int .i64 m)) ∧ PlS w pl hb0 hb1 ar K w' := by
  obtain ⟨G0, G1, H0, H1, left, e0, e1, h2, hs, ha, hB⟩ := h
  rcases hx with rfl | rfl
  · subst e0
    refine (drop_first h2 hB.size (by omega)).mono ?_
    rintro e w' ⟨rfl, ⟨G', hG, h3⟩, hC⟩
    exact ⟨⟨_, rfl⟩, G', G1, [], H1, _, hG, e1, h3, by simp; omega, hC.heap ha (h2.off ha (by decide) (by decide) (by decide) (by decide) (by decide)), hB.trans (hC.below hB.size h2.below)⟩
  · subst e1
    refine (drop_first h2.swap hB.size (by omega)).mono ?_
    rintro e w' ⟨rfl, ⟨G', hG, h3⟩, hC⟩
    exact ⟨⟨_, rfl⟩, G0, G', H0, [], _, e0, hG, h3.swap, by simp; omega, hC.heap ha (h2.swap.off ha (by decide) (by decide) (by decide) (by decide) (by decide)), hB.trans (hC.below hB.size h2.swap.below)⟩
/-- One more, in one of the two. -/
theorem ins_first {B left : Nat} {G0 G1 : HG} {H0 H1 : List PL} (h : Two wx B pl G0 G1 H0 H1 left) (hB : B ≤ wx.heap.size) (h256 : H0.length + H1.length + left ≤ 256) (t : Tup) (A : Option Addr) (n c : Nat) (hn : n = t.data.length) (h0 : 0 ≤ t.row) (h1 : 0 ≤ t.xmin) (h2 : 0 ≤ t.xmax) (hb : ∀ x, x ∈ t.data → 0 ≤ x ∧ x ≤ 255)
    (hsd : ∀ k, (Value.slice A n c).ownBlock = some k → k ∉ pl :: G0.foot) (hsrc : Src1 wx 1 (.slice A n c) n (bvals t.data)) :
    Calls Try.prog 24 #[.pointer (some ⟨G0.hb, 0, none⟩), .agg #[.int .u64 t.row, .int .u64 t.xmin, .int .u64 t.xmax, .int .i64 t.np, .int .i64 t.ns, .slice A n c]] wx fun e w' =>
      ∃ code p s H' left' G', e = .returned (.tuple #[V53 p s, .int .i64 code]) ∧ InsA H0 t left code p s H' left' ∧ G'.hb = G0.hb ∧ Two w' B pl G' G1 H' H1 left' ∧ Chg (pl :: G0.foot) wx w' := by
  refine (hins_all h.h0 h.pool (by omega) t A n c hn h0 h1 h2 hb hsd hsrc).mono ?_
  rintro e w' ⟨code, p, s, H', left', G', rfl, hI, hG, hh, hp, hf, hC⟩
  exact ⟨code, p, s, H', left', G', rfl, hI, hG, h.turn hC (fun x hx => hx) hB hh hp hf, hC⟩
theorem ins_pl (h : PlS w pl hb0 hb1 ar K wx) (hK : K ≤ 256) (x : Nat) (hx : x = hb0 ∨ x = hb1) (t : Tup) (A : Option Addr) (n c : Nat) (hn : n = t.data.length) (h0 : 0 ≤ t.row) (h1 : 0 ≤ t.xmin) (h2 : 0 ≤ t.xmax) (hb : ∀ x, x ∈ t.data → 0 ≤ x ∧ x ≤ 255) (hcl : Cloned wx w' (.slice A n c) t.data) :
    Calls Try.prog 24 #[.pointer (some ⟨x, 0, none⟩), .agg #[.int .u64 t.row, .int .u64 t.xmin, .int .u64 t.xmax, .int .i64 t.np, .int .i64 t.ns, .slice A n c]] w' fun e w'' => (∃ p s code, e = .returned (.tuple #[V53 p s, .int .i64 code])) ∧ PlS w pl hb0 hb1 ar K w'' := by
  obtain ⟨hO, hC0, hnew⟩ := hcl
  have hsrc : Src1 w' 1 (.slice A n c) n (bvals t.data) := by
    rw [hn]; rw [hn] at hO; exact Src1.of_own hO (bvals_one _)
  obtain ⟨G0, G1, H0, H1, left, e0, e1, h2', hs, ha, hB⟩ := h
  have hsd : ∀ (G : HG) (H : List PL), HeapAt wx pl G H → ∀ k, (Value.slice A n c).ownBlock = some k → k ∉ pl :: G.foot := by
    intro G H hh k hk hm
    have h3 := hnew k hk
    rcases List.mem_cons.1 hm with e | e
    · have := lt_of_heap h2'.pool; omega
    · have := hh.lt k e; omega
  have h3 := h2'.still hC0
  have ha' := hC0.heap ha (by simp)
  have hB' : Below w.heap.size w w' := hB.trans (hC0.below hB.size (by simp))
  rcases hx with rfl | rfl
  · subst e0
    refine (ins_first h3 hB'.size (by omega) t A n c hn h0 h1 h2 hb (hsd _ _ h2'.h0) hsrc).mono ?_
    rintro e w'' ⟨code, p, s, H', left', G', rfl, hI, hG, h4, hC⟩
    exact ⟨⟨_, _, _, rfl⟩, G', G1, H', H1, left', hG, e1, h4, by have := hI.sum; omega, hC.heap ha' (h3.off ha' (by decide) (by decide) (by decide) (by decide) (by decide)), hB'.trans (hC.below hB'.size h3.below)⟩
  · subst e1
    refine (ins_first h3.swap hB'.size (by omega) t A n c hn h0 h1 h2 hb (hsd _ _ h2'.h1) hsrc).mono ?_
    rintro e w'' ⟨code, p, s, H', left', G', rfl, hI, hG, h4, hC⟩
    exact ⟨⟨_, _, _, rfl⟩, G0, G', H0, H', left', e0, hG, h4.swap, by have := hI.sum; omega, hC.heap ha' (h3.swap.off ha' (by decide) (by decide) (by decide) (by decide) (by decide)), hB'.trans (hC.below hB'.size h3.swap.below)⟩
end
end Go.Proofs.Yteokjaocnemmlaa
