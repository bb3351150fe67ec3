/-
  The walk of fold.Sort's closure; what the sort asks of it.
-/
import Derived.Test.YtkdhhafoohnlnaaGrp3
import Derived.Test.YtkdhhafoohnlnaaOrdP
namespace Go.Proofs.Ytkdhhafoohnlnaa
open Go.RowKit

theorem KeysAt.below {w w' : World} {v : Value} {K : List (List Vl)} (h : KeysAt w v K) (hB : Below w.heap.size w w') : KeysAt w' v K := by
  have c : ∀ {p : Addr} {v : Value}, w.cell? p = some v → w'.cell? p = some v := fun hc => (hB.cell (World.block_lt_of_cell? _ _ hc)).trans hc
  obtain ⟨A, ca, vs, rfl, hc⟩ := h
  refine ⟨A, ca, vs, rfl, fun j x hx => ?_⟩
  obtain ⟨b, off, ha, h0, A2, c2, he, h1⟩ := hc j x hx
  refine ⟨b, off, ha, c h0, A2, c2, he, fun i y hy => ?_⟩
  obtain ⟨b2, off2, ha2, x0, x1, x2, x3⟩ := h1 i y hy
  exact ⟨b2, off2, ha2, c x0, c x1, c x2, c x3⟩
theorem BoolAt.below {w w' : World} {v : Value} {l : List Bool} (h : BoolAt w v l) (hB : Below w.heap.size w w') : BoolAt w' v l := by
  obtain ⟨A, ca, rfl, hc⟩ := h
  refine ⟨A, ca, rfl, fun j x hx => ?_⟩
  obtain ⟨b, off, ha, h0⟩ := hc j x hx
  exact ⟨b, off, ha, (hB.cell (World.block_lt_of_cell? _ _ h0)).trans h0⟩

/-- What the closure answers. -/
def cmpB (K : List (List Vl)) (d : List Bool) (i k : Nat) : Int := if ltI K d i k then -1 else if ltI K d k i then 1 else 0
theorem cmpB_lt (K : List (List Vl)) (d : List Bool) (i k : Nat) : decide (cmpB K d i k < 0) = ltI K d i k := by
  unfold cmpB
  cases h1 : ltI K d i k <;> cases h2 : ltI K d k i <;> simp

theorem less_at {w : World} {vK vD : Value} {K : List (List Vl)} {d : List Bool} (hK : KeysAt w vK K) (hD : BoolAt w vD d) (hlen : ∀ r, r ∈ K → r.length ≤ 1000) {i j : Nat} (hi : i < K.length) (hj : j < K.length) :
    ∃ b off c u v, vK = .slice (some ⟨b, off, none⟩) K.length c ∧ w.cell? ⟨b, off + i, none⟩ = some u ∧ w.cell? ⟨b, off + j, none⟩ = some v ∧
      (∀ w0, Chg [] w w0 → Calls Try.prog 17 #[u, v, vD] w0 fun e w' => e = .returned (.bool (ltI K d i j)) ∧ Chg [] w0 w') ∧ (∀ w0, Chg [] w w0 → Calls Try.prog 17 #[v, u, vD] w0 fun e w' => e = .returned (.bool (ltI K d j i)) ∧ Chg [] w0 w') := by
  obtain ⟨r, hr⟩ : ∃ r, K[i]? = some r := ⟨_, List.getElem?_eq_getElem hi⟩
  obtain ⟨s, hs⟩ : ∃ s, K[j]? = some s := ⟨_, List.getElem?_eq_getElem hj⟩
  obtain ⟨b, off, c, u, rfl, hu, hru⟩ := hK.cell hr
  obtain ⟨b', off', c', v, he, hv, hrv⟩ := hK.cell hs
  injection he with he1 he2 he3
  injection he1 with he1
  injection he1 with e1 e2
  subst e1 e2
  have ei : K.getD i [] = r := by rw [List.getD_eq_getElem?_getD, hr]; rfl
  have ej : K.getD j [] = s := by rw [List.getD_eq_getElem?_getD, hs]; rfl
  refine ⟨b, off, c, u, v, rfl, hu, hv, fun w0 hC => ?_, fun w0 hC => ?_⟩
  · unfold ltI
    rw [ei, ej]
    exact fless_any u v vD r s d w0 (hru.chg hC) (hrv.chg hC) (hD.chg hC) (hlen r (List.mem_of_getElem? hr))
  · unfold ltI
    rw [ei, ej]
    exact fless_any v u vD s r d w0 (hrv.chg hC) (hru.chg hC) (hD.chg hC) (hlen s (List.mem_of_getElem? hs))

set_option maxRecDepth 100000 in
set_option maxHeartbeats 4000000 in
theorem clo28 {w : World} {vK vD : Value} {bk bd : Nat} {K : List (List Vl)} {d : List Bool} {i k : Nat} (hbk : w.cell? ⟨bk, 0, none⟩ = some vK) (hbd : w.cell? ⟨bd, 0, none⟩ = some vD) (hK : KeysAt w vK K) (hD : BoolAt w vD d) (hlen : ∀ r, r ∈ K → r.length ≤ 1000) (hi : i < K.length) (hk : k < K.length) :
    Calls Try.prog 28 #[.int .i64 i, .int .i64 k, .pointer (some ⟨bk, 0, none⟩), .pointer (some ⟨bd, 0, none⟩)] w fun e w' => e = .returned (.int .i64 (cmpB K d i k)) ∧ Chg [] w w' := by
  obtain ⟨b, off, c, u, v, rfl, hu, hv, h1, h2⟩ := less_at hK hD hlen hi hk
  obtain ⟨Ad, cd, hdd⟩ : ∃ A c, vD = .slice A d.length c := by obtain ⟨A, c, h, _⟩ := hD; exact ⟨A, c, h⟩
  obtain ⟨ld, hld⟩ : ∃ n, n = d.length := ⟨_, rfl⟩
  rw [← hld] at hdd
  subst hdd
  obtain ⟨n, hn⟩ : ∃ n, n = K.length := ⟨_, rfl⟩
  rw [← hn] at hi hk hbk
  have hii : (i : Int) < (n : Int) := by omega
  have hki : (k : Int) < (n : Int) := by omega
  unfold cmpB
  obtain ⟨p, hp⟩ : ∃ p, p = ltI K d i k := ⟨_, rfl⟩
  obtain ⟨q, hq⟩ : ∃ q, q = ltI K d k i := ⟨_, rfl⟩
  rw [← hp] at h1
  rw [← hq] at h2
  rw [← hp, ← hq]
  have H1 := Lib.hid h1
  have H2 := Lib.hid h2
  clear hK hD hlen hn hp hq hld h1 h2
  cases p with
  | true =>
    go_enter Try.func28, Try.ntmps28
    go_wp2_with fail
    go_region_held3 (fun w' => w'.cell? ⟨bk, 0, none⟩ = some (.slice (some ⟨b, off, none⟩) n c) ∧ w'.cell? ⟨bd, 0, none⟩ = some (.slice Ad ld cd) ∧ w'.cell? ⟨b, off + i, none⟩ = some u ∧ w'.cell? ⟨b, off + k, none⟩ = some v) (first | with_reducible exact ⟨hbk, hbd, hu, hv⟩ | with_reducible exact ⟨y0, y1, y2, y3⟩ | go_keep)
      (first
       | (go_at_call 17; (with_reducible refine (H1.out _ (by first | exact (Chg.refl [] w).drew | exact (Chg.refl [] w).same)).mono ?_); rintro e w2 ⟨rfl, hC2⟩; have y0 := hC2.cell (p := ⟨bk, 0, none⟩) (by exact hbk) (by simp); have y1 := hC2.cell (p := ⟨bd, 0, none⟩) (by exact hbd) (by simp); have y2 := hC2.cell (p := ⟨b, off + i, none⟩) (by exact hu) (by simp); have y3 := hC2.cell (p := ⟨b, off + k, none⟩) (by exact hv) (by simp); have HCC := Lib.hid (Chg.trans (S := []) (a := w) (by first | exact (Chg.refl [] w).drew | exact (Chg.refl [] w).same) hC2); clear hC2))
    go_wp2_with fail
    go_ret
    exact ⟨rfl, HCC.out⟩
  | false =>
    go_enter Try.func28, Try.ntmps28
    go_wp2_with fail
    go_region_held3 (fun w' => w'.cell? ⟨bk, 0, none⟩ = some (.slice (some ⟨b, off, none⟩) n c) ∧ w'.cell? ⟨bd, 0, none⟩ = some (.slice Ad ld cd) ∧ w'.cell? ⟨b, off + i, none⟩ = some u ∧ w'.cell? ⟨b, off + k, none⟩ = some v) (first | with_reducible exact ⟨hbk, hbd, hu, hv⟩ | with_reducible exact ⟨y0, y1, y2, y3⟩ | go_keep)
      (first
       | (go_at_call 17; (with_reducible refine (H1.out _ (by first | exact (Chg.refl [] w).drew | exact (Chg.refl [] w).same)).mono ?_); rintro e w2 ⟨rfl, hC2⟩; have y0 := hC2.cell (p := ⟨bk, 0, none⟩) (by exact hbk) (by simp); have y1 := hC2.cell (p := ⟨bd, 0, none⟩) (by exact hbd) (by simp); have y2 := hC2.cell (p := ⟨b, off + i, none⟩) (by exact hu) (by simp); have y3 := hC2.cell (p := ⟨b, off + k, none⟩) (by exact hv) (by simp); have HCC := Lib.hid (Chg.trans (S := []) (a := w) (by first | exact (Chg.refl [] w).drew | exact (Chg.refl [] w).same) hC2); clear hC2))
    go_wp2_with fail
    go_region_held3 (fun w' => w'.cell? ⟨bk, 0, none⟩ = some (.slice (some ⟨b, off, none⟩) n c) ∧ w'.cell? ⟨bd, 0, none⟩ = some (.slice Ad ld cd) ∧ w'.cell? ⟨b, off + i, none⟩ = some u ∧ w'.cell? ⟨b, off + k, none⟩ = some v) (first | with_reducible exact ⟨y0, y1, y2, y3⟩ | with_reducible exact ⟨z0, z1, z2, z3⟩ | go_keep)
      (first
       | (go_at_call 17; (with_reducible refine (H2.out _ (by first | exact HCC.out.drew | exact HCC.out.same)).mono ?_); rintro e w3 ⟨rfl, hC3⟩; have z0 := hC3.cell (p := ⟨bk, 0, none⟩) (by exact y0) (by simp); have z1 := hC3.cell (p := ⟨bd, 0, none⟩) (by exact y1) (by simp); have z2 := hC3.cell (p := ⟨b, off + i, none⟩) (by exact y2) (by simp); have z3 := hC3.cell (p := ⟨b, off + k, none⟩) (by exact y3) (by simp); have HCD := Lib.hid (Chg.trans (S := []) (a := w) (by first | exact HCC.out.drew | exact HCC.out.same) hC3); clear hC3))
    cases q with
    | true =>
      go_wp2_with fail
      go_ret
      exact ⟨rfl, HCD.out⟩
    | false =>
      go_wp2_with fail
      go_ret
      exact ⟨rfl, HCD.out⟩

/-- The sort's surroundings: from w on only blocks behind B are turned; the closure answers. -/
def Clo (w : World) (bk bd : Nat) (K : List (List Vl)) (d : List Bool) : Prop :=
  ∀ wr, Below w.heap.size w wr → ∀ i k : Nat, i < K.length → k < K.length → Calls Try.prog 28 #[.int .i64 i, .int .i64 k, .pointer (some ⟨bk, 0, none⟩), .pointer (some ⟨bd, 0, none⟩)] wr fun e w' => e = .returned (.int .i64 (cmpB K d i k)) ∧ Chg [] wr w'
theorem Clo.of {w : World} {vK vD : Value} {bk bd : Nat} {K : List (List Vl)} {d : List Bool} (hbk : w.cell? ⟨bk, 0, none⟩ = some vK) (hbd : w.cell? ⟨bd, 0, none⟩ = some vD) (hK : KeysAt w vK K) (hD : BoolAt w vD d) (hlen : ∀ r, r ∈ K → r.length ≤ 1000) : Clo w bk bd K d := by
  intro wr hB i k hi hk
  exact clo28 ((hB.cell (World.block_lt_of_cell? _ _ hbk)).trans hbk) ((hB.cell (World.block_lt_of_cell? _ _ hbd)).trans hbd) (hK.below hB) (hD.below hB) hlen hi hk
abbrev cloV (bk bd : Nat) : Value := .func (.func 28) #[] #[.pointer (some ⟨bk, 0, none⟩), .pointer (some ⟨bd, 0, none⟩)]
/-- The row that is sorted. -/
structure SS (w : World) (g n cap : Nat) (xs : List Nat) (wr : World) : Prop where
  own : Own wr 3 1 (.slice (some ⟨g, 0, none⟩) n cap) n (nats xs)
  len : xs.length = n
  bel : Below w.heap.size w wr
  ge : w.heap.size ≤ g
section
variable {w wr w' : World} {g n cap : Nat} {xs : List Nat}
theorem SS.still (h : SS w g n cap xs wr) (hC : Chg [] wr w') : SS w g n cap xs w' :=
  ⟨h.own.chg hC (by simp), h.len, h.bel.trans (hC.below h.bel.size (by simp)), h.ge⟩
theorem SS.cell (h : SS w g n cap xs wr) {i x : Nat} (hx : xs[i]? = some x) : wr.cell? ⟨g, i, none⟩ = some (.int .i64 x) ∧ wr.frozen? ⟨g, i, none⟩ = false := by
  obtain ⟨cs, hc⟩ := h.own.block (k := g) rfl
  have e := World.ownsRow.cells h.own (g := g) rfl _ _ (nats_get hx)
  rw [Go.WideShapes.add_plain] at e
  simp only [Nat.zero_add] at e
  exact ⟨e, frozen_of_row wr g i _ _ hc⟩
theorem SS.set (h : SS w g n cap xs wr) {i : Nat} (hi : i < n) (x : Nat) : SS w g n cap (xs.set i x) (wr.setCell ⟨g, i, none⟩ (.int .i64 x)) := by
  have hC : Chg [g] wr (wr.setCell ⟨g, i, none⟩ (.int .i64 x)) := (Chg.refl [g] wr).setCell (.inl (by simp)) _
  refine ⟨?_, by rw [List.length_set]; exact h.len, h.bel.trans (hC.below h.bel.size (by simpa using h.ge)), h.ge⟩
  rcases h.own.set1 (i := i) (.int .i64 x) with h1 | h1
  · unfold nats at h1 ⊢
    rw [List.map_set]
    exact h1
  · omega
end
end Go.Proofs.Ytkdhhafoohnlnaa
