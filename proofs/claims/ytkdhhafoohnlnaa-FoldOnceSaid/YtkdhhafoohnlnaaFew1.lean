/-
  Rows of rows that few lays; what few answers, plain.
-/
import Derived.Test.YtkdhhafoohnlnaaRight2
namespace Go.Proofs.Ytkdhhafoohnlnaa
open Go.RowKit

def cellsV (v : Vl) : List Value := [.int .u8 v.k, .int .i64 v.i, .string v.s, .bool v.b]
def cellsR (l : List Vl) : List Value := l.flatMap cellsV
theorem cellsR_len (l : List Vl) : (cellsR l).length = l.length * 4 := by
  induction l with
  | nil => rfl
  | cons x l ih =>
    show (cellsV x ++ cellsR l).length = _
    rw [List.length_append, ih, List.length_cons]
    show 4 + _ = _
    omega
theorem cellsR_get {l : List Vl} {j t : Nat} {x : Vl} (h : l[j]? = some x) (ht : t < 4) : (cellsR l)[j * 4 + t]? = (cellsV x)[t]? := by
  induction l generalizing j with
  | nil => simp at h
  | cons y l ih =>
    show (cellsV y ++ cellsR l)[j * 4 + t]? = _
    cases j with
    | zero =>
      simp at h
      subst h
      rw [List.getElem?_append_left (by show 0 * 4 + t < 4; omega)]
      simp
    | succ j =>
      rw [List.getElem?_append_right (by show 4 ≤ _; omega), show (j + 1) * 4 + t - (cellsV y).length = j * 4 + t by show (j + 1) * 4 + t - 4 = _; omega]
      exact ih (by simpa using h)
theorem cellsR_app (l : List Vl) (x : Vl) : cellsR l ++ cellsV x = cellsR (l ++ [x]) := by unfold cellsR; simp
/-- A row of values of the call's own. -/
abbrev VAt (w : World) (v : Value) (l : List Vl) : Prop := Own w 39 4 v l.length (cellsR l)
theorem VAt.row {w : World} {v : Value} {l : List Vl} (h : VAt w v l) : RowAt w v l := by
  obtain ⟨A, c, rfl⟩ := h.form'
  refine ⟨A, c, rfl, fun j x hx => ?_⟩
  have hl := getElem?_lt hx
  rcases h.2 with ⟨_, h2⟩ | ⟨g, cap, cur, he, _⟩
  · omega
  · injection he with he1 he2 he3
    subst he1 he3
    have key : ∀ t u, t < 4 → (cellsV x)[t]? = some u → w.cell? ⟨g, 0 + (j * 4 + t), none⟩ = some u := by
      intro t u ht hu
      have := World.ownsRow.cells h (g := g) rfl _ _ ((cellsR_get hx ht).trans hu)
      rw [Go.WideShapes.add_plain] at this
      exact this
    exact ⟨g, 0, rfl, key 0 _ (by omega) rfl, key 1 _ (by omega) rfl, key 2 _ (by omega) rfl, key 3 _ (by omega) rfl⟩
/-- Rows of values of the call's own. -/
structure RAt (w : World) (v : Value) (out : List (List Vl)) (vs : List Value) : Prop where
  len : vs.length = out.length
  row : Own w 34 1 v out.length vs
  inn : ∀ (j : Nat) (l : List Vl) (u : Value), out[j]? = some l → vs[j]? = some u → VAt w u l
theorem RAt.nil (w : World) : RAt w (.slice none 0 0) [] [] := ⟨rfl, ⟨rfl, .inl ⟨rfl, rfl⟩⟩, by simp⟩
theorem RAt.chg {w w' : World} {v : Value} {out : List (List Vl)} {vs : List Value} (h : RAt w v out vs) (hC : Chg [] w w') : RAt w' v out vs :=
  ⟨h.len, h.row.chg hC (by simp), fun j l u hl hu => (h.inn j l u hl hu).chg hC (by simp)⟩
theorem RAt.push {w w2 w3 : World} {v v' u : Value} {out : List (List Vl)} {vs : List Value} {l0 : List Vl} (h : RAt w v out vs) (hC : Chg [] w w2) (hu : VAt w2 u l0) (ha : App w2 w3 34 1 v v' (out.length + 1) (vs ++ [u])) : RAt w3 v' (out ++ [l0]) (vs ++ [u]) := by
  have hrow := h.row.chg hC (by simp)
  refine ⟨by simp [h.len], by simpa using ha.own, ?_⟩
  intro j l x hl hx
  by_cases hj : j < out.length
  · rw [List.getElem?_append_left hj] at hl
    rw [List.getElem?_append_left (by rw [h.len]; exact hj)] at hx
    have h1 := (h.inn j l x hl hx).chg hC (by simp)
    refine h1.chg ha.chg (fun k hk hm => ?_)
    rw [Option.mem_toList] at hm
    exact hrow.apart h1 (by decide) hm hk
  · have hl2 := getElem?_lt hl
    have hje : j = out.length := by simp at hl2; omega
    subst hje
    rw [List.getElem?_append_right (by omega)] at hl
    rw [List.getElem?_append_right (by rw [h.len]; omega)] at hx
    simp at hl
    simp [h.len] at hx
    subst hl hx
    refine hu.chg ha.chg (fun k hk hm => ?_)
    rw [Option.mem_toList] at hm
    exact hrow.apart hu (by decide) hm hk
theorem RAt.keys {w : World} {v : Value} {out : List (List Vl)} {vs : List Value} (h : RAt w v out vs) : KeysAt w v out := by
  obtain ⟨A, c, rfl⟩ := h.row.form'
  refine ⟨A, c, fun j => (vs[j]?).getD (.bool false), rfl, fun j l hl => ?_⟩
  have hjl := getElem?_lt hl
  obtain ⟨u, hu⟩ : ∃ u, vs[j]? = some u := ⟨_, List.getElem?_eq_getElem (by rw [h.len]; exact hjl)⟩
  rcases h.row.2 with ⟨_, h2⟩ | ⟨g, cap, cur, he, _⟩
  · omega
  · injection he with he1 he2 he3
    subst he1 he3
    have := World.ownsRow.cells h.row (g := g) rfl _ _ hu
    rw [Go.WideShapes.add_plain] at this
    refine ⟨g, 0, rfl, ?_, ?_⟩
    · show _ = some ((vs[j]?).getD _); rw [hu]; exact this
    · show RowAt w ((vs[j]?).getD _) l; rw [hu]; exact (h.inn j l _ hl hu).row

/-- A key that few lays, of k. -/
def fewV (k : List Vl) (c : Nat) : Vl := match k[c]? with
  | some x => if rightB x then x else Vl.zero
  | none => Vl.zero
def fewRow (n : Nat) (k : List Vl) : List Vl := (List.range n).map (fewV k)
theorem fewRow_succ (n : Nat) (k : List Vl) : fewRow (n + 1) k = fewRow n k ++ [fewV k n] := by unfold fewRow; rw [List.range_succ, List.map_append]; rfl
theorem fewRow_len (n : Nat) (k : List Vl) : (fewRow n k).length = n := by unfold fewRow; simp
def fewK (n : Nat) (L : List (List Vl)) : List (List Vl) := (L.take 40).map (fewRow n)
theorem fewK_len (n : Nat) (L : List (List Vl)) : (fewK n L).length ≤ 40 := by unfold fewK; simp; omega
theorem fewK_even (n : Nat) (L : List (List Vl)) : Even (fewK n L) n := by
  intro r hr
  obtain ⟨k, _, rfl⟩ := List.mem_map.1 hr
  exact fewRow_len n k
theorem take_map_succ {n j : Nat} {L : List (List Vl)} {k : List Vl} (h : L[j]? = some k) : (L.take (j + 1)).map (fewRow n) = (L.take j).map (fewRow n) ++ [fewRow n k] := by
  have hl := getElem?_lt h
  rw [List.take_add_one, h]
  simp
end Go.Proofs.Ytkdhhafoohnlnaa
