/-
  Groups, plain: what fold.Groups makes is what the reference says.
-/
import Derived.Test.YtkdhhafoohnlnaaGrp3
namespace Go.Proofs.Ytkdhhafoohnlnaa

/-- Have two rows one key? -/
def sameI (K : List (List Vl)) (i j : Nat) : Bool := sameK (K.getD i []) (K.getD j [])
theorem sameI_iff {K : List (List Vl)} {i j : Nat} : sameI K i j = true ↔ (K.getD i []).map vkey = (K.getD j []).map vkey := sameK_iff
theorem sameI_refl (K : List (List Vl)) (i : Nat) : sameI K i i = true := sameI_iff.2 rfl
theorem sameI_symm {K : List (List Vl)} {i j : Nat} (h : sameI K i j = true) : sameI K j i = true := sameI_iff.2 (sameI_iff.1 h).symm
theorem sameI_trans {K : List (List Vl)} {i j k : Nat} (h : sameI K i j = true) (h' : sameI K j k = true) : sameI K i k = true := sameI_iff.2 ((sameI_iff.1 h).trans (sameI_iff.1 h'))
/-- Is it the first of its key? -/
def isFst (K : List (List Vl)) (i : Nat) : Bool := (List.range i).all fun k => !sameI K k i
def fsts (K : List (List Vl)) (n : Nat) : List Nat := (List.range n).filter (isFst K)
def mems (K : List (List Vl)) (n i : Nat) : List Nat := (List.range n).filter fun k => decide (i ≤ k) && sameI K k i
theorem fsts_succ (K : List (List Vl)) (n : Nat) : fsts K (n + 1) = fsts K n ++ if isFst K n then [n] else [] := by
  unfold fsts
  rw [List.range_succ, List.filter_append]
  congr 1
  simp only [List.filter_cons, List.filter_nil]
theorem mems_succ (K : List (List Vl)) (n i : Nat) : mems K (n + 1) i = mems K n i ++ if decide (i ≤ n) && sameI K n i then [n] else [] := by
  unfold mems
  rw [List.range_succ, List.filter_append]
  congr 1
  simp only [List.filter_cons, List.filter_nil]
theorem mems_head {K : List (List Vl)} {n i : Nat} (h : i < n) : (mems K n i).headD 0 = i := by
  induction n with
  | zero => omega
  | succ n ih =>
    rw [mems_succ]
    by_cases hi : i < n
    · have h1 := ih hi
      cases hm : mems K n i with
      | nil =>
        exfalso
        have : i ∈ mems K n i := by unfold mems; rw [List.mem_filter]; exact ⟨by simpa using hi, by simp [sameI_refl]⟩
        rw [hm] at this
        cases this
      | cons x l => rw [hm] at h1; simpa using h1
    · have he : i = n := by omega
      subst he
      have h0 : mems K i i = [] := by
        unfold mems
        rw [List.filter_eq_nil_iff]
        intro k hk
        have := List.mem_range.1 hk
        simp
        intro h
        omega
      rw [h0]
      simp [sameI_refl]
theorem mem_fsts {K : List (List Vl)} {n i : Nat} : i ∈ fsts K n ↔ i < n ∧ ∀ k, k < i → sameI K k i = false := by
  unfold fsts isFst
  simp [List.mem_filter, List.all_eq_true]
theorem grp_eq (K : List (List Vl)) (n : Nat) : grpN K n = (fsts K n).map (mems K n) := by
  induction n with
  | zero => rfl
  | succ n ih =>
    show grpStep K (grpN K n) n = _
    have hin : ∀ i, i ∈ fsts K n → inG K (K.getD n []) (mems K n i) = sameI K i n := by
      intro i hi
      unfold inG
      rw [mems_head (mem_fsts.1 hi).1]
      rfl
    have hle : ∀ i, i ∈ fsts K n → i < n := fun i hi => (mem_fsts.1 hi).1
    unfold grpStep
    rw [ih]
    cases hf : findG K (K.getD n []) ((fsts K n).map (mems K n)) with
    | none =>
      unfold findG at hf
      rw [List.findIdx?_eq_none_iff] at hf
      have hno : ∀ i, i ∈ fsts K n → sameI K i n = false := fun i hi => by rw [← hin i hi]; exact hf _ (List.mem_map.2 ⟨i, hi, rfl⟩)
      have hfst : isFst K n = true := by
        unfold isFst
        rw [List.all_eq_true]
        intro k hk
        have hk' := List.mem_range.1 hk
        -- the least of k's key is a first one
        have key : ∀ m, ∀ k, k ≤ m → k < n → sameI K k n = true → False := by
          intro m
          induction m with
          | zero =>
            intro k hk0 hkn hs
            have hk0' : k = 0 := by omega
            subst hk0'
            have : (0 : Nat) ∈ fsts K n := mem_fsts.2 ⟨hkn, by intro k hk; omega⟩
            rw [hno 0 this] at hs
            cases hs
          | succ m ihm =>
            intro k hkm hkn hs
            by_cases hex : ∃ q, q < k ∧ sameI K q k = true
            · obtain ⟨q, hq, hqs⟩ := hex
              exact ihm q (by omega) (by omega) (sameI_trans hqs hs)
            · have : k ∈ fsts K n := mem_fsts.2 ⟨hkn, fun q hq => by
                cases hqs : sameI K q k with
                | false => rfl
                | true => exact absurd ⟨q, hq, hqs⟩ hex⟩
              rw [hno k this] at hs
              cases hs
        cases hs : sameI K k n with
        | false => rfl
        | true => exact absurd hs (fun h => key k k (Nat.le_refl _) hk' h)
      rw [fsts_succ, hfst, if_pos rfl, List.map_append]
      show (fsts K n).map (mems K n) ++ [[n]] = _
      congr 1
      · apply List.map_congr_left
        intro i hi
        rw [mems_succ]
        have : sameI K n i = false := by
          cases h : sameI K n i with
          | false => rfl
          | true => have := hno i hi; rw [sameI_symm h] at this; cases this
        simp [this]
      · simp only [List.map_cons, List.map_nil]
        have h0 : mems K n n = [] := by
          unfold mems
          rw [List.filter_eq_nil_iff]
          intro k hk
          have := List.mem_range.1 hk
          simp
          intro h
          omega
        rw [mems_succ, h0]
        simp [sameI_refl]
    | some g =>
      unfold findG at hf
      rw [List.findIdx?_eq_some_iff_getElem] at hf
      obtain ⟨hg, h1, h2⟩ := hf
      rw [List.length_map] at hg
      have hgi : (fsts K n)[g] ∈ fsts K n := List.getElem_mem hg
      simp only [List.getElem_map] at h1
      rw [hin _ hgi] at h1
      have hnf : isFst K n = false := by
        unfold isFst
        rw [List.all_eq_false]
        exact ⟨_, List.mem_range.2 (hle _ hgi), by simp [h1]⟩
      rw [fsts_succ, hnf]
      simp only [Bool.false_eq_true, if_false, List.append_nil]
      apply List.ext_getElem
      · simp
      · intro j hj1 hj2
        simp only [List.length_set, List.length_map] at hj1 hj2
        rw [List.getElem_set]
        simp only [List.getElem_map]
        rw [mems_succ]
        by_cases hj : g = j
        · subst hj
          rw [if_pos rfl]
          have hl := hle _ hgi
          have : (decide ((fsts K n)[g] ≤ n) && sameI K n (fsts K n)[g]) = true := by rw [sameI_symm h1]; simp; omega
          rw [this, if_pos rfl, List.getD_eq_getElem?_getD, List.getElem?_map, List.getElem?_eq_getElem hg]
          rfl
        · rw [if_neg hj]
          have hji : (fsts K n)[j] ∈ fsts K n := List.getElem_mem hj2
          have : sameI K n (fsts K n)[j] = false := by
            cases h : sameI K n (fsts K n)[j] with
            | false => rfl
            | true =>
              exfalso
              have hs : sameI K (fsts K n)[g] (fsts K n)[j] = true := sameI_trans h1 h
              have hnd : (fsts K n).Nodup := (List.nodup_range).sublist List.filter_sublist
              have hne : (fsts K n)[g] ≠ (fsts K n)[j] := by
                intro e
                have := (List.getElem_inj hnd).1 e
                exact hj this
              rcases Nat.lt_or_gt_of_ne hne with hlt | hlt
              · have := (mem_fsts.1 hji).2 _ hlt
                rw [hs] at this; cases this
              · have := (mem_fsts.1 hgi).2 _ hlt
                rw [sameI_symm hs] at this; cases this
          simp [this]
end Go.Proofs.Ytkdhhafoohnlnaa
