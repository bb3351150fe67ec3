/-
  Groups, plain: each row stands in one place; rows of one group are those of one key.
-/
import Derived.Test.YtkdhhafoohnlnaaGrp4
import Derived.Test.YtkdhhafoohnlnaaGrp2
import Derived.Test.YtkdhhafoohnlnaaOrdP
namespace Go.Proofs.Ytkdhhafoohnlnaa

theorem flatten_set_perm {out : List (List Nat)} {g : Nat} {l : List Nat} (x : Nat) (h : out[g]? = some l) : ((out.set g (l ++ [x])).flatten).Perm (out.flatten ++ [x]) := by
  induction out generalizing g with
  | nil => simp at h
  | cons m out ih =>
    cases g with
    | zero =>
      simp at h
      subst h
      simp only [List.set_cons_zero, List.flatten_cons, List.append_assoc]
      exact List.Perm.append_left _ (List.perm_append_comm)
    | succ g =>
      simp only [List.set_cons_succ, List.flatten_cons, List.append_assoc]
      exact List.Perm.append_left _ (ih (by simpa using h))
theorem grp_perm (K : List (List Vl)) (n : Nat) : ((grpN K n).flatten).Perm (List.range n) := by
  induction n with
  | zero => exact List.Perm.refl _
  | succ n ih =>
    show ((grpStep K (grpN K n) n).flatten).Perm _
    rw [List.range_succ]
    unfold grpStep
    split
    · rw [List.flatten_append]
      simpa using List.Perm.append_right _ ih
    · rename_i g hg
      have hgl : g < (grpN K n).length := by
        unfold findG at hg
        rw [List.findIdx?_eq_some_iff_getElem] at hg
        exact hg.1
      obtain ⟨l, hl⟩ : ∃ l, (grpN K n)[g]? = some l := ⟨_, List.getElem?_eq_getElem hgl⟩
      rw [List.getD_eq_getElem?_getD, hl]
      exact (flatten_set_perm n hl).trans (List.Perm.append_right _ ih)
/-- x stands in group a, at place y. -/
def At (out : List (List Nat)) (a y x : Nat) : Prop := ∃ l, out[a]? = some l ∧ l[y]? = some x
theorem nodup_get {l : List Nat} (h : l.Nodup) {i j x : Nat} (hi : l[i]? = some x) (hj : l[j]? = some x) : i = j := by
  have hi' := getElem?_lt hi
  exact (List.getElem?_inj hi' h).1 (hi.trans hj.symm)
theorem At.uniq {out : List (List Nat)} (hn : out.flatten.Nodup) {a y x a' y' : Nat} (h : At out a y x) (h' : At out a' y' x) : a = a' ∧ y = y' := by
  unfold List.Nodup at hn
  rw [List.pairwise_flatten] at hn
  obtain ⟨h1, h2⟩ := hn
  obtain ⟨l, hl, hy⟩ := h
  obtain ⟨m, hm, hy'⟩ := h'
  have key : ∀ (i j : Nat) (u v : List Nat), out[i]? = some u → out[j]? = some v → x ∈ u → x ∈ v → ¬ i < j := by
    intro i j u v hu hv xu xv hij
    rw [List.pairwise_iff_getElem] at h2
    have hi := getElem?_lt hu
    have hj := getElem?_lt hv
    have := h2 i j hi hj hij
    rw [List.getElem?_eq_getElem hi] at hu
    rw [List.getElem?_eq_getElem hj] at hv
    injection hu with hu
    injection hv with hv
    rw [hu, hv] at this
    exact this x xu x xv rfl
  have haa : a = a' := by
    have k1 := key a a' l m hl hm (List.mem_of_getElem? hy) (List.mem_of_getElem? hy')
    have k2 := key a' a m l hm hl (List.mem_of_getElem? hy') (List.mem_of_getElem? hy)
    omega
  subst haa
  rw [hl] at hm
  injection hm with hm
  subst hm
  exact ⟨rfl, nodup_get (h1 l (List.mem_of_getElem? hl)) hy hy'⟩
theorem At.exists {out : List (List Nat)} {x : Nat} (h : x ∈ out.flatten) : ∃ a y, At out a y x := by
  obtain ⟨l, hl, hx⟩ := List.mem_flatten.1 h
  obtain ⟨a, ha⟩ := List.getElem?_of_mem hl
  obtain ⟨y, hy⟩ := List.getElem?_of_mem hx
  exact ⟨a, y, l, ha, hy⟩
theorem grp_iff {K : List (List Vl)} {a b y z i j : Nat} (hi : At (grpN K K.length) a y i) (hj : At (grpN K K.length) b z j) : a = b ↔ sameI K i j = true := by
  rw [grp_eq] at hi hj
  have one : ∀ {a y i}, At ((fsts K K.length).map (mems K K.length)) a y i → ∃ f, (fsts K K.length)[a]? = some f ∧ sameI K i f = true := by
    intro a y i h
    obtain ⟨l, hl, hy⟩ := h
    rw [List.getElem?_map] at hl
    cases hf : (fsts K K.length)[a]? with
    | none => rw [hf] at hl; cases hl
    | some f =>
      rw [hf] at hl
      injection hl with hl
      subst hl
      have := List.mem_of_getElem? hy
      unfold mems at this
      rw [List.mem_filter] at this
      have h2 := this.2
      simp only [Bool.and_eq_true] at h2
      exact ⟨f, rfl, h2.2⟩
  obtain ⟨f, hf, hif⟩ := one hi
  obtain ⟨g, hg, hjg⟩ := one hj
  constructor
  · intro e
    subst e
    rw [hf] at hg
    injection hg with hg
    subst hg
    exact sameI_trans hif (sameI_symm hjg)
  · intro hs
    have hfg := sameI_trans (sameI_trans (sameI_symm hif) hs) hjg
    have hff := (mem_fsts.1 (List.mem_of_getElem? hf)).2
    have hgg := (mem_fsts.1 (List.mem_of_getElem? hg)).2
    have hfe : f = g := by
      rcases Nat.lt_trichotomy f g with h | h | h
      · have := hgg f h; rw [hfg] at this; cases this
      · exact h
      · have := hff g h; rw [sameI_symm hfg] at this; cases this
    subst hfe
    have hnd : (fsts K K.length).Nodup := List.Pairwise.filter _ List.nodup_range
    exact nodup_get hnd hf hg
theorem alike_same {K : List (List Vl)} {c : Nat} (he : Even K c) {i j : Nat} (hi : i < K.length) (hj : j < K.length) : (!ltI K [] i j && !ltI K [] j i) = sameI K i j := by
  have hl : (K.getD i []).length = (K.getD j []).length := by rw [he.getD hi, he.getD hj]
  unfold ltI sameI
  cases hs : sameK (K.getD i []) (K.getD j []) with
  | true =>
    rw [(sameK_less hs).1, (sameK_less hs).2, lessK_irrefl]; rfl
  | false =>
    cases h1 : lessK (K.getD i []) (K.getD j []) [] with
    | true => rfl
    | false =>
      cases h2 : lessK (K.getD j []) (K.getD i []) [] with
      | true => rfl
      | false => rw [lessK_total hl h1 h2] at hs; cases hs

/-- What the map holds when groups up to g, and of g the first t, are laid in. -/
structure Laid (out : List (List Nat)) (g t : Nat) (f : Nat → Nat) (p : Nat → Bool) (s : Nat) : Prop where
  yes : ∀ a y x, At out a y x → (a < g ∨ (a = g ∧ y < t)) → f x = a ∧ p x = true
  no : ∀ a y x, At out a y x → ¬ (a < g ∨ (a = g ∧ y < t)) → p x = false
  size : s = ((out.take g).flatten).length + t
theorem Laid.start (out : List (List Nat)) : Laid out 0 0 (fun _ => 0) (fun _ => false) 0 :=
  ⟨by intro a y x _ h; omega, fun _ _ _ _ _ => rfl, by simp⟩
theorem Laid.step {out : List (List Nat)} (hn : out.flatten.Nodup) {g t s x : Nat} {f : Nat → Nat} {p : Nat → Bool} (h : Laid out g t f p s) (hx : At out g t x) : Laid out g (t + 1) (fun z => if z = x then g else f z) (fun z => z == x || p z) (if p x then s else s + 1) := by
  refine ⟨?_, ?_, ?_⟩
  · intro a y z hz ho
    by_cases e : z = x
    · subst e
      obtain ⟨rfl, rfl⟩ := hz.uniq hn hx
      simp
    · have hne : ¬ (a = g ∧ y = t) := by
        rintro ⟨rfl, rfl⟩
        obtain ⟨l, h1, h2⟩ := hz
        obtain ⟨m, h3, h4⟩ := hx
        rw [h1] at h3
        injection h3 with h3
        subst h3
        rw [h2] at h4
        injection h4 with h4
        exact e h4
      obtain ⟨h1, h2⟩ := h.yes a y z hz (by omega)
      simp [e, h1, h2]
  · intro a y z hz ho
    have e : z ≠ x := by
      intro e
      subst e
      obtain ⟨rfl, rfl⟩ := hz.uniq hn hx
      omega
    have := h.no a y z hz (by omega)
    simp [e, this]
  · rw [h.no g t x hx (by omega)]
    have := h.size
    rw [if_neg (by simp)]
    omega
theorem Laid.next {out : List (List Nat)} {g s : Nat} {l : List Nat} {f : Nat → Nat} {p : Nat → Bool} (h : Laid out g l.length f p s) (hl : out[g]? = some l) : Laid out (g + 1) 0 f p s := by
  have key : ∀ a y x, At out a y x → ((a < g + 1 ∨ (a = g + 1 ∧ y < 0)) ↔ (a < g ∨ (a = g ∧ y < l.length))) := by
    intro a y x hx
    obtain ⟨m, h1, h2⟩ := hx
    have := getElem?_lt h2
    constructor
    · intro ho
      by_cases e : a = g
      · subst e
        rw [hl] at h1
        injection h1 with h1
        subst h1
        exact .inr ⟨rfl, this⟩
      · exact .inl (by omega)
    · intro ho; omega
  refine ⟨fun a y x hx ho => h.yes a y x hx ((key a y x hx).1 ho), fun a y x hx ho => h.no a y x hx (fun hh => ho ((key a y x hx).2 hh)), ?_⟩
  rw [h.size, List.take_add_one, hl]
  simp
theorem Laid.le {out : List (List Nat)} {g t s : Nat} {l : List Nat} {f : Nat → Nat} {p : Nat → Bool} (h : Laid out g t f p s) (hl : out[g]? = some l) (ht : t ≤ l.length) : s ≤ out.flatten.length := by
  have e0 : (out.take (g + 1) ++ out.drop (g + 1)).flatten.length = out.flatten.length := by rw [List.take_append_drop]
  rw [List.flatten_append, List.length_append, List.take_add_one, hl, List.flatten_append, List.length_append] at e0
  have e : ((some l).toList.flatten).length = l.length := by simp
  have := h.size
  omega
theorem Laid.done {K : List (List Vl)} {f : Nat → Nat} {p : Nat → Bool} {s : Nat} (h : Laid (grpN K K.length) (grpN K K.length).length 0 f p s) : s = K.length ∧ ∀ i j, i < K.length → j < K.length → (f i = f j ↔ sameI K i j = true) := by
  have hp := grp_perm K K.length
  refine ⟨?_, ?_⟩
  · rw [h.size, List.take_length, hp.length_eq]; simp
  · intro i j hi hj
    obtain ⟨a, y, ha⟩ := At.exists (hp.mem_iff.2 (List.mem_range.2 hi))
    obtain ⟨b, z, hb⟩ := At.exists (hp.mem_iff.2 (List.mem_range.2 hj))
    have la : a < (grpN K K.length).length := by obtain ⟨l, hl, _⟩ := ha; exact getElem?_lt hl
    have lb : b < (grpN K K.length).length := by obtain ⟨l, hl, _⟩ := hb; exact getElem?_lt hl
    rw [(h.yes a y i ha (.inl la)).1, (h.yes b z j hb (.inl lb)).1]
    exact grp_iff ha hb
end Go.Proofs.Ytkdhhafoohnlnaa
