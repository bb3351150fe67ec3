/-
  Plain laws of a page: a slot freed, the last ones dropped, one more put, all moved; no program in sight.
-/
import Derived.Test.YteokjaocnemmlaaPage7
import Derived.Test.YteokjaocnemmlaaMem2
namespace Go.Proofs.Yteokjaocnemmlaa

theorem set_none_key {L : PL} {s : Nat} (hl : s < L.length) {k : Nat} {u : Tup} (hu : (L.set s none)[k]? = some (some u)) : k ≠ s ∧ L[k]? = some (some u) := by
  rw [set_get k hl] at hu
  by_cases hk : k = s
  · rw [if_pos hk] at hu; cases hu
  · rw [if_neg hk] at hu; exact ⟨hk, hu⟩

/-- A slot freed: its bytes are cleared, its pointer is 0. -/
def dropF (f : Nat → Int) (a z s : Nat) : Nat → Int := pointF (splice f a z (fun _ => 0)) s 0 0
theorem dropF_out {f : Nat → Int} {a z s i : Nat} (h : i < 4 + 4 * s ∨ 8 + 4 * s ≤ i) (h2 : i < a ∨ a + z ≤ i) : dropF f a z s i = f i := by
  unfold dropF
  rw [pointF_out _ _ h, splice_out h2]
theorem PG.drop {f : Nat → Int} {L : PL} {fr : Nat → Nat} {st s : Nat} {t : Tup} (h : PG f L fr st) (hs : L[s]? = some (some t)) : PG (dropF f (fr s) t.size s) (L.set s none) fr st := by
  have hl := getElem?_lt hs
  have h1 := h.lo
  have h2 := h.hi
  have hls := h.lies s t hs
  have hz := t.size_lo
  refine ⟨pointF_bytes _ _ _ (splice_bytes h.bytes (fun i _ => by simp)), ?_, ?_, by simpa using h1, h2, ?_, ?_, ?_, ?_, ?_, ?_, ?_⟩
  · rw [u16_congr (g := f) (fun i _ h4 => dropF_out (by omega) (by omega)), h.cnt]; simp
  · rw [u16_congr (g := f) (fun i _ h4 => dropF_out (by omega) (by omega)), h.sta]
  · intro k hk
    rw [set_get k hl] at hk
    by_cases hks : k = s
    · subst hks
      exact pointF_size _ _ (by omega) (by omega)
    · rw [if_neg hks] at hk
      have hkl := getElem?_lt hk
      rw [u16_congr (g := f) (fun i h3 h4 => dropF_out (by omega) (by omega))]
      exact h.free k hk
  · intro k u hu
    obtain ⟨hks, hk⟩ := set_none_key hl hu
    have hkl := getElem?_lt hk
    rw [u16_congr (g := f) (fun i h3 h4 => dropF_out (by omega) (by omega)), u16_congr (g := f) (a := 4 + 4 * k + 2) (fun i h3 h4 => dropF_out (by omega) (by omega))]
    exact h.ptr k u hk
  · intro k u hu
    exact h.lies k u (set_none_key hl hu).2
  · intro k u hu
    exact h.ok k u (set_none_key hl hu).2
  · intro k u hu i hi
    obtain ⟨hks, hk⟩ := set_none_key hl hu
    have hlk := h.lies k u hk
    rw [dropF_out (by omega) (by have := h.apart k s u t hk hs hks; omega)]
    exact h.data k u hk i hi
  · intro k k' u u' hu hu' hne
    exact h.apart k k' u u' (set_none_key hl hu).2 (set_none_key hl hu').2 hne
  · have := total_set L s none hl
    have h3 := h.fits
    simp only [slotSize] at this
    rw [List.length_set]
    omega

/-- The slots from n on dropped. -/
def takeF (f : Nat → Int) (n m st : Nat) : Nat → Int := setF (splice f (4 + 4 * n) (4 * (m - n)) (fun _ => 0)) n st
theorem takeF_out {f : Nat → Int} {n m st i : Nat} (hn : n ≤ m) (h0 : 4 ≤ i) (h : i < 4 + 4 * n ∨ 4 + 4 * m ≤ i) : takeF f n m st i = f i := by
  unfold takeF
  rw [setF_out _ h0, splice_out (by omega)]
theorem take_key {L : PL} {n k : Nat} {o : Option Tup} (h : (L.take n)[k]? = some o) : k < n ∧ L[k]? = some o := by
  rw [List.getElem?_take] at h
  split at h
  · exact ⟨by assumption, h⟩
  · cases h
theorem PG.take {f : Nat → Int} {L : PL} {fr : Nat → Nat} {st n : Nat} (h : PG f L fr st) (hn : n ≤ L.length) : PG (takeF f n L.length st) (L.take n) fr st := by
  have h1 := h.lo
  have h2 := h.hi
  have hlen : (L.take n).length = n := by simp; omega
  refine ⟨setF_bytes _ _ (splice_bytes h.bytes (fun i _ => by simp)), ?_, ?_, by rw [hlen]; omega, h2, ?_, ?_, ?_, ?_, ?_, ?_, ?_⟩
  · rw [hlen]; exact setF_cnt _ (by omega) (by omega)
  · exact setF_sta _ (by omega) (by omega)
  · intro k hk
    obtain ⟨hkn, hk⟩ := take_key hk
    rw [u16_congr (g := f) (fun i h3 h4 => takeF_out hn (by omega) (by omega))]
    exact h.free k hk
  · intro k u hu
    obtain ⟨hkn, hk⟩ := take_key hu
    rw [u16_congr (g := f) (fun i h3 h4 => takeF_out hn (by omega) (by omega)), u16_congr (g := f) (a := 4 + 4 * k + 2) (fun i h3 h4 => takeF_out hn (by omega) (by omega))]
    exact h.ptr k u hk
  · intro k u hu
    exact h.lies k u (take_key hu).2
  · intro k u hu
    exact h.ok k u (take_key hu).2
  · intro k u hu i hi
    obtain ⟨hkn, hk⟩ := take_key hu
    have hlk := h.lies k u hk
    rw [takeF_out hn (by omega) (by omega)]
    exact h.data k u hk i hi
  · intro k k' u u' hu hu' hne
    exact h.apart k k' u u' (take_key hu).2 (take_key hu').2 hne
  · have := total_take_le L n
    have h3 := h.fits
    rw [hlen]
    omega

/-- One more, or another one, in slot s. -/
def putAt (L : PL) (s : Nat) (o : Option Tup) : PL := if s < L.length then L.set s o else L ++ [o]
theorem putAt_get {L : PL} {s : Nat} (h : s ≤ L.length) (o : Option Tup) (k : Nat) : (putAt L s o)[k]? = if k = s then some o else L[k]? := by
  unfold putAt
  by_cases hs : s < L.length
  · rw [if_pos hs, set_get k hs]
  · rw [if_neg hs]
    have : s = L.length := by omega
    subst this
    rw [List.getElem?_append]
    by_cases hk : k < L.length
    · rw [if_pos hk, if_neg (by omega)]
    · rw [if_neg hk]
      by_cases hk2 : k = L.length
      · subst hk2; simp
      · rw [if_neg hk2]
        rw [List.getElem?_eq_none (by simp; omega), List.getElem?_eq_none (by omega)]
theorem putAt_len {L : PL} {s : Nat} (h : s ≤ L.length) (o : Option Tup) : (putAt L s o).length = max L.length (s + 1) := by
  unfold putAt
  split
  · simp; omega
  · simp; omega
theorem putAt_total {L : PL} {s : Nat} (o : Option Tup) (hf : s < L.length → L[s]? = some none) : total (putAt L s o) = total L + slotSize o := by
  unfold putAt
  split
  · have hs : s < L.length := by assumption
    have h1 := total_set L s o hs
    have h2 := hf hs
    rw [List.getElem?_eq_getElem hs] at h2
    injection h2 with h2
    rw [h2] at h1
    simpa [slotSize] using h1
  · rw [total_append]; simp [total]

def placeF (f : Nat → Int) (count a : Nat) (s : Nat) (t : Tup) : Nat → Int := pointF (splice (setF f count a) a t.size (fun i => (packL t).getD i 0)) s a t.size
theorem placeF_out {f : Nat → Int} {count a s i : Nat} {t : Tup} (h0 : 4 ≤ i) (h : i < 4 + 4 * s ∨ 8 + 4 * s ≤ i) (h2 : i < a ∨ a + t.size ≤ i) : placeF f count a s t i = f i := by
  unfold placeF
  rw [pointF_out _ _ h, splice_out h2, setF_out _ h0]
theorem Tup.size_hi {t : Tup} (h : t.Ok) : t.size ≤ 230 := by have := h.len; unfold Tup.size; omega
theorem PG.place {f : Nat → Int} {L : PL} {fr : Nat → Nat} {st s count a : Nat} {t : Tup} (h : PG f L fr st) (hs : s ≤ L.length) (hfree : s < L.length → L[s]? = some none) (ho : t.Ok)
    (hc : count = max L.length (s + 1)) (ha : a + t.size = st) (hlo : 4 + 4 * count ≤ a) (hfit : 4 + 4 * count + total L + t.size ≤ 512) :
    PG (placeF f count a s t) (putAt L s (some t)) (fun k => if k = s then a else fr k) a := by
  have h1 := h.lo
  have h2 := h.hi
  have hz := t.size_lo
  have hzh := Tup.size_hi ho
  have key : ∀ (k : Nat) (u : Tup), (putAt L s (some t))[k]? = some (some u) → (k = s ∧ u = t) ∨ (k ≠ s ∧ L[k]? = some (some u)) := by
    intro k u hu
    rw [putAt_get hs] at hu
    by_cases hk : k = s
    · rw [if_pos hk] at hu
      injection hu with hu
      injection hu with hu
      exact .inl ⟨hk, hu.symm⟩
    · rw [if_neg hk] at hu
      exact .inr ⟨hk, hu⟩
  have head : ∀ x : Nat → Int, (∀ i, i < 4 → placeF f count a s t i = setF f count a i) := by
    intro x i hi
    unfold placeF
    rw [pointF_out _ _ (by omega), splice_out (by omega)]
  have hb : Bytes (placeF f count a s t) 512 := pointF_bytes _ _ _ (splice_bytes (setF_bytes _ _ h.bytes) (fun i _ => by rw [packL_getD]; exact packB_range ho i))
  refine ⟨hb, ?_, ?_, by rw [putAt_len hs]; omega, by omega, ?_, ?_, ?_, ?_, ?_, ?_, ?_⟩
  · rw [u16_congr (g := setF f count a) (fun i _ h4 => head f i (by omega)), putAt_len hs, setF_cnt _ (by omega) (by omega), hc]
  · rw [u16_congr (g := setF f count a) (fun i _ h4 => head f i (by omega)), setF_sta _ (by omega) (by omega)]
  · intro k hk
    rw [putAt_get hs] at hk
    by_cases hks : k = s
    · rw [if_pos hks] at hk; cases hk
    · rw [if_neg hks] at hk
      have hkl := getElem?_lt hk
      rw [u16_congr (g := f) (fun i h3 h4 => placeF_out (by omega) (by omega) (by omega))]
      exact h.free k hk
  · intro k u hu
    rcases key k u hu with ⟨rfl, rfl⟩ | ⟨hks, hk⟩
    · rw [if_pos rfl]
      exact ⟨pointF_from _ _ (by omega) (by omega), pointF_size _ _ (by omega) (by omega)⟩
    · rw [if_neg hks]
      have hkl := getElem?_lt hk
      rw [u16_congr (g := f) (fun i h3 h4 => placeF_out (by omega) (by omega) (by omega)), u16_congr (g := f) (a := 4 + 4 * k + 2) (fun i h3 h4 => placeF_out (by omega) (by omega) (by omega))]
      exact h.ptr k u hk
  · intro k u hu
    rcases key k u hu with ⟨rfl, rfl⟩ | ⟨hks, hk⟩
    · rw [if_pos rfl]; omega
    · rw [if_neg hks]
      have := h.lies k u hk
      omega
  · intro k u hu
    rcases key k u hu with ⟨rfl, rfl⟩ | ⟨hks, hk⟩
    · exact ho
    · exact h.ok k u hk
  · intro k u hu i hi
    rcases key k u hu with ⟨rfl, rfl⟩ | ⟨hks, hk⟩
    · rw [if_pos rfl]
      unfold placeF
      rw [pointF_out _ _ (by omega), splice_at hi, packL_getD]
    · rw [if_neg hks]
      have := h.lies k u hk
      rw [placeF_out (by omega) (by omega) (by omega)]
      exact h.data k u hk i hi
  · intro k k' u u' hu hu' hne
    rcases key k u hu with ⟨rfl, rfl⟩ | ⟨hks, hk⟩ <;> rcases key k' u' hu' with ⟨rfl, rfl⟩ | ⟨hks', hk'⟩
    · exact absurd rfl hne
    · rw [if_pos rfl, if_neg hks']
      have := h.lies k' u' hk'
      omega
    · rw [if_pos rfl, if_neg hks]
      have := h.lies k u hk
      omega
    · rw [if_neg hks, if_neg hks']
      exact h.apart _ _ _ _ hk hk' hne
  · rw [putAt_len hs, putAt_total _ hfree]
    simp only [slotSize]
    omega

/-! ### move -/
/-- Where a slot's version lies when all are moved. -/
def movedAt (L : PL) (s : Nat) : Nat := 512 - total (L.take (s + 1))
/-- g: as the bytes f, the versions of the first n slots moved. -/
structure Mv (f : Nat → Int) (L : PL) (n : Nat) (g : Nat → Int) : Prop where
  bytes : Bytes g 512
  head : ∀ i, i < 4 → g i = f i
  free : ∀ s : Nat, L[s]? = some none → u16 g (4 + 4 * s + 2) = 0
  ptr : ∀ (s : Nat) (t : Tup), s < n → L[s]? = some (some t) → u16 g (4 + 4 * s) = movedAt L s ∧ u16 g (4 + 4 * s + 2) = t.size
  data : ∀ (s : Nat) (t : Tup), s < n → L[s]? = some (some t) → ∀ i, i < t.size → g (movedAt L s + i) = packB t i
theorem Mv.start {f : Nat → Int} {L : PL} {fr : Nat → Nat} {st : Nat} (h : PG f L fr st) : Mv f L 0 (splice f (4 + 4 * L.length) (512 - (4 + 4 * L.length)) (fun _ => 0)) := by
  refine ⟨splice_bytes h.bytes (fun i _ => by simp), fun i hi => splice_out (by omega), ?_, fun _ _ h _ => by omega, fun _ _ h _ => by omega⟩
  intro s hs
  have := getElem?_lt hs
  rw [u16_congr (g := f) (fun i h3 h4 => splice_out (by omega))]
  exact h.free s hs
theorem Mv.skip {f g : Nat → Int} {L : PL} {n : Nat} (h : Mv f L n g) (hn : L[n]? = some none) : Mv f L (n + 1) g := by
  refine ⟨h.bytes, h.head, h.free, ?_, ?_⟩
  · intro s t hs ht
    by_cases e : s = n
    · subst e; rw [hn] at ht; cases ht
    · exact h.ptr s t (by omega) ht
  · intro s t hs ht
    by_cases e : s = n
    · subst e; rw [hn] at ht; cases ht
    · exact h.data s t (by omega) ht
theorem total_slot' {L : PL} {k : Nat} {o : Option Tup} (hk : L[k]? = some o) : total (L.take (k + 1)) = total (L.take k) + slotSize o := total_slot hk
theorem total_take_mono (L : PL) {a b : Nat} (h : a ≤ b) : total (L.take a) ≤ total (L.take b) := by
  have := total_take_le (L.take b) a
  rwa [List.take_take, Nat.min_eq_left h] at this
def stepF (g : Nat → Int) (a n : Nat) (t : Tup) : Nat → Int := pointF (splice g a t.size (fun i => (packL t).getD i 0)) n a t.size
theorem stepF_out {g : Nat → Int} {a s i : Nat} {t : Tup} (h : i < 4 + 4 * s ∨ 8 + 4 * s ≤ i) (h2 : i < a ∨ a + t.size ≤ i) : stepF g a s t i = g i := by
  unfold stepF
  rw [pointF_out _ _ h, splice_out h2]
theorem Mv.step {f g : Nat → Int} {L : PL} {n a : Nat} {t : Tup} (h : Mv f L n g) (hn : L[n]? = some (some t)) (ho : t.Ok) (hfit : 4 + 4 * L.length + total L ≤ 512) (ha : a + t.size = 512 - total (L.take n)) : Mv f L (n + 1) (stepF g a n t) := by
  have hnl := getElem?_lt hn
  have ht1 := total_slot hn
  have htl := total_take_le L (n + 1)
  have hz := t.size_lo
  have hzh := Tup.size_hi ho
  simp only [slotSize] at ht1
  have hma : movedAt L n = a := by unfold movedAt; omega
  have before : ∀ s u, s < n → L[s]? = some (some u) → a + t.size ≤ movedAt L s ∧ movedAt L s + u.size ≤ 512 := by
    intro s u hs hu
    have h1 := total_slot hu
    have h2 := total_take_mono L (show s + 1 ≤ n by omega)
    simp only [slotSize] at h1
    unfold movedAt
    omega
  refine ⟨pointF_bytes _ _ _ (splice_bytes h.bytes (fun i _ => by rw [packL_getD]; exact packB_range ho i)), ?_, ?_, ?_, ?_⟩
  · intro i hi
    rw [stepF_out (by omega) (by omega)]
    exact h.head i hi
  · intro s hs
    have hsl := getElem?_lt hs
    have hne : s ≠ n := by intro e; subst e; rw [hn] at hs; cases hs
    rw [u16_congr (g := g) (fun i h3 h4 => stepF_out (by omega) (by omega))]
    exact h.free s hs
  · intro s u hs hu
    by_cases e : s = n
    · subst e
      rw [hn] at hu
      injection hu with hu
      injection hu with hu
      subst hu
      rw [hma]
      exact ⟨pointF_from _ _ (by omega) (by omega), pointF_size _ _ (by omega) (by omega)⟩
    · have hsl := getElem?_lt hu
      rw [u16_congr (g := g) (fun i h3 h4 => stepF_out (by omega) (by omega)), u16_congr (g := g) (a := 4 + 4 * s + 2) (fun i h3 h4 => stepF_out (by omega) (by omega))]
      exact h.ptr s u (by omega) hu
  · intro s u hs hu i hi
    by_cases e : s = n
    · subst e
      rw [hn] at hu
      injection hu with hu
      injection hu with hu
      subst hu
      rw [hma]
      unfold stepF
      rw [pointF_out _ _ (by omega), splice_at hi, packL_getD]
    · have := before s u (by omega) hu
      rw [stepF_out (by omega) (by omega)]
      exact h.data s u (by omega) hu i hi
theorem PG.moved {f g : Nat → Int} {L : PL} {fr : Nat → Nat} {st : Nat} (h : PG f L fr st) (m : Mv f L L.length g) : PG (setF g L.length (512 - total L : Nat)) L (movedAt L) (512 - total L) := by
  have hfit := h.fits
  have mv : ∀ (s : Nat) (t : Tup), L[s]? = some (some t) → 512 - total L ≤ movedAt L s ∧ movedAt L s + t.size ≤ 512 := by
    intro s t hs
    have h1 := total_slot hs
    have h2 := total_take_le L (s + 1)
    simp only [slotSize] at h1
    unfold movedAt
    omega
  refine ⟨setF_bytes _ _ m.bytes, setF_cnt _ (by omega) (by omega), setF_sta _ (by omega) (by omega), by omega, by omega, ?_, ?_, mv, h.ok, ?_, ?_, hfit⟩
  · intro s hs
    rw [u16_congr (g := g) (fun i h3 h4 => setF_out _ (by omega))]
    exact m.free s hs
  · intro s t hs
    rw [u16_congr (g := g) (fun i h3 h4 => setF_out _ (by omega)), u16_congr (g := g) (a := 4 + 4 * s + 2) (fun i h3 h4 => setF_out _ (by omega))]
    exact m.ptr s t (getElem?_lt hs) hs
  · intro s t hs i hi
    have := mv s t hs
    rw [setF_out _ (by omega)]
    exact m.data s t (getElem?_lt hs) hs i hi
  · have one : ∀ (s s' : Nat) (t t' : Tup), L[s]? = some (some t) → L[s']? = some (some t') → s < s' → movedAt L s' + t'.size ≤ movedAt L s := by
      intro s s' t t' hs hs' hlt
      have h1 := total_slot hs'
      have h2 := total_take_mono L (show s + 1 ≤ s' by omega)
      have h3 := total_take_le L (s' + 1)
      simp only [slotSize] at h1
      unfold movedAt
      omega
    intro s s' t t' hs hs' hne
    rcases Nat.lt_or_gt_of_ne hne with hlt | hlt
    · exact .inr (one _ _ _ _ hs hs' hlt)
    · exact .inl (one _ _ _ _ hs' hs hlt)

/-! ### What the calls do to the list -/
/-- How many slots are left, if the last ones that are free are dropped: of the first n. -/
def cut (L : PL) : Nat → Nat
  | 0 => 0
  | n + 1 => match L[n]? with
    | some (some _) => n + 1
    | _ => cut L n
theorem cut_le (L : PL) (n : Nat) : cut L n ≤ n := by
  induction n with
  | zero => simp [cut]
  | succ n ih =>
    unfold cut
    split <;> omega
def trim (L : PL) : PL := L.take (cut L L.length)
/-- One more. -/
def ins (L : PL) (t : Tup) : PL := putAt L (freeSlot L) (some t)
/-- A slot freed. -/
def rem (L : PL) (s : Nat) : PL := trim (L.set s none)

theorem room_fit {L : PL} {t : Tup} (h : (t.data.length : Int) ≤ room L) : 4 + 4 * max L.length (freeSlot L + 1) + total L + t.size ≤ 512 := by
  unfold room at h
  have := freeSlot_le L
  unfold Tup.size
  rcases Nat.lt_or_eq_of_le this with h1 | h1
  · rw [if_neg (by omega)] at h; omega
  · rw [if_pos h1] at h; omega
end Go.Proofs.Yteokjaocnemmlaa
