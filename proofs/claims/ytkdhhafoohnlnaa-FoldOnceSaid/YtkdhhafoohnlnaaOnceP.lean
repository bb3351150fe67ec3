/-
  Counting, plain: what the map holds.
-/
import Derived.Test.YtkdhhafoohnlnaaGrpP
namespace Go.Proofs.Ytkdhhafoohnlnaa

/-- The first t of l are counted. -/
structure C1 (l : List Nat) (t : Nat) (f : Nat → Nat) (p : Nat → Bool) : Prop where
  cnt : ∀ x, f x = (l.take t).count x
  has : ∀ x, p x = decide (x ∈ l.take t)
theorem C1.start (l : List Nat) : C1 l 0 (fun _ => 0) (fun _ => false) := ⟨fun x => by simp, fun x => by simp⟩
theorem C1.step {l : List Nat} {t x : Nat} {f : Nat → Nat} {p : Nat → Bool} (hn : l.Nodup) (h : C1 l t f p) (hx : l[t]? = some x) : f x = 0 ∧ p x = false ∧ C1 l (t + 1) (fun z => if z = x then 1 else f z) (fun z => z == x || p z) := by
  have e : l.take (t + 1) = l.take t ++ [x] := by rw [List.take_add_one, hx]; rfl
  have hnx : x ∉ l.take t := by
    intro hm
    obtain ⟨i, hi⟩ := List.getElem?_of_mem hm
    have hit : i < t := by
      have := getElem?_lt hi
      rw [List.length_take] at this
      omega
    rw [List.getElem?_take, if_pos hit] at hi
    have := nodup_get hn hi hx
    omega
  refine ⟨by rw [h.cnt, List.count_eq_zero]; exact hnx, by rw [h.has]; simpa using hnx, fun z => ?_, fun z => ?_⟩
  · rw [e, List.count_append, ← h.cnt]
    by_cases hz : z = x
    · subst hz
      simp [h.cnt, List.count_eq_zero.2 hnx]
    · have : ([x] : List Nat).count z = 0 := List.count_eq_zero.2 (by simpa using hz)
      simp [hz, this]
  · rw [e, h.has]
    by_cases hz : z = x
    · simp [hz]
    · simp [hz]
/-- All of l are counted, and m behind it. -/
structure C2 (l m : List Nat) (f : Nat → Nat) (p : Nat → Bool) : Prop where
  cnt : ∀ x, f x = l.count x + m.count x
  has : ∀ x, p x = decide (x ∈ l)
theorem C2.start {l : List Nat} {t : Nat} {f : Nat → Nat} {p : Nat → Bool} (h : C1 l t f p) (ht : l.length ≤ t) : C2 l [] f p := by
  have e : l.take t = l := List.take_of_length_le ht
  refine ⟨fun x => ?_, fun x => ?_⟩
  · rw [h.cnt, e]; simp
  · rw [h.has, e]
theorem C2.step {l m : List Nat} {x : Nat} {f : Nat → Nat} {p : Nat → Bool} (h : C2 l m f p) (hx : x ∈ l) : p x = true ∧ f x ≤ l.length + m.length ∧ C2 l (m ++ [x]) (fun z => if z = x then f x + 1 else f z) (fun z => z == x || p z) := by
  refine ⟨by rw [h.has]; simpa using hx, ?_, fun z => ?_, fun z => ?_⟩
  · rw [h.cnt]
    have h1 : l.count x ≤ l.length := List.count_le_length
    have h2 : m.count x ≤ m.length := List.count_le_length
    omega
  · by_cases hz : z = x
    · subst hz
      rw [List.count_append]
      simp [h.cnt]
      omega
    · have : ([x] : List Nat).count z = 0 := List.count_eq_zero.2 (by simpa using hz)
      rw [List.count_append, this]
      simp [hz, h.cnt]
  · rw [h.has]
    by_cases hz : z = x
    · subst hz; simpa using hx
    · simp [hz]
theorem C2.done {l m : List Nat} {n i : Nat} {f : Nat → Nat} {p : Nat → Bool} (h : C2 l m f p) (hl : l.Perm (List.range n)) (hm : m.Perm (List.range n)) (hi : i < n) : f i = 2 := by
  have c : (List.range n).count i = 1 := (by rw [List.nodup_range.count, if_pos (List.mem_range.2 hi)])
  rw [h.cnt, hl.count_eq, hm.count_eq, c]
/-- What of the groups was gone through: groups up to g, and of g the first t. -/
def pre (out : List (List Nat)) (g t : Nat) : List Nat := (out.take g).flatten ++ (out.getD g []).take t
theorem pre_zero (out : List (List Nat)) : pre out 0 0 = [] := by simp [pre]
theorem pre_step {out : List (List Nat)} {g t x : Nat} {l : List Nat} (hl : out[g]? = some l) (hx : l[t]? = some x) : pre out g (t + 1) = pre out g t ++ [x] := by
  unfold pre
  rw [List.getD_eq_getElem?_getD, hl]
  show _ ++ l.take (t + 1) = _ ++ l.take t ++ [x]
  rw [List.take_add_one, hx]
  simp
theorem pre_next {out : List (List Nat)} {g : Nat} {l : List Nat} (hl : out[g]? = some l) : pre out (g + 1) 0 = pre out g l.length := by
  unfold pre
  rw [List.getD_eq_getElem?_getD (l := out) (i := g), hl, List.take_add_one, hl]
  show ((out.take g ++ [l]).flatten ++ _) = _ ++ l.take l.length
  simp
theorem pre_done (out : List (List Nat)) : pre out out.length 0 = out.flatten := by
  unfold pre
  rw [List.take_length]
  simp
theorem pre_len {out : List (List Nat)} {g t : Nat} {l : List Nat} (hl : out[g]? = some l) : (pre out g t).length ≤ out.flatten.length := by
  have e0 : (out.take (g + 1) ++ out.drop (g + 1)).flatten.length = out.flatten.length := by rw [List.take_append_drop]
  rw [List.flatten_append, List.length_append, List.take_add_one, hl, List.flatten_append, List.length_append] at e0
  have e : ((some l).toList.flatten).length = l.length := by simp
  unfold pre
  rw [List.getD_eq_getElem?_getD, hl]
  show ((out.take g).flatten ++ l.take t).length ≤ _
  rw [List.length_append, List.length_take]
  omega
/-- How many are told. -/
def limI (n most : Int) : Int := if most < 0 then n else if n < most then n else most
end Go.Proofs.Ytkdhhafoohnlnaa
