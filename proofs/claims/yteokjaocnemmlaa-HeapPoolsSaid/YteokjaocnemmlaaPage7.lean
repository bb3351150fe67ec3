/-
  The walks of package page: Stamp.
-/
import Derived.Test.YteokjaocnemmlaaPage6
namespace Go.Proofs.Yteokjaocnemmlaa
open Go.RowKit

theorem two0 {w : World} {g t : Nat} {u v : Value} {fr : Nat × Nat} (h : w.heap[g]? = some (.cells #[u, v] t fr)) : w.cell? ⟨g, 0, none⟩ = some u := by rw [cell_of_row w g 0 _ _ _ h]; rfl
theorem two1 {w : World} {g t : Nat} {u v : Value} {fr : Nat × Nat} (h : w.heap[g]? = some (.cells #[u, v] t fr)) : w.cell? ⟨g, 1, none⟩ = some v := by rw [cell_of_row w g 1 _ _ _ h]; rfl
/-- A version's bytes at a, its end and what came behind it stamped. -/
def stampF (f : Nat → Int) (a : Nat) (xmax np ns : Int) : Nat → Int := splice (splice (splice f (a + 16) 8 (byteAt xmax)) (a + 24) 4 (byteAt (np + 1))) (a + 28) 2 (byteAt (ns + 1))

set_option maxRecDepth 100000 in
set_option maxHeartbeats 1000000 in
theorem stamp_nil (s xmax np ns : Int) (w : World) : Calls Try.prog 47 #[.pointer none, .int .i64 s, .int .u64 xmax, .agg #[.int .i64 np, .int .i64 ns]] w fun e w' => e = .returned (.int .i64 15) ∧ Chg [] w w' := by
  go_enter Try.func47, Try.ntmps47
  go_wp2_with (first | (go_at_call 73; refine (bytesOf_nil _ _).mono ?_; rintro e w' ⟨rfl, rfl⟩))
  go_ret
  exact ⟨rfl, (Chg.refl _ _).alloc _⟩

set_option maxRecDepth 100000 in
set_option maxHeartbeats 1000000 in
theorem stamp_bad (p : Nat) (s xmax np ns : Int) (v : Value) (w : World) (h : 1099511627776 < xmax ∨ farB np ns = true)
    (hb : ∀ w0, Chg [] w w0 → Hid (Calls Try.prog 73 #[.pointer (some ⟨p, 0, none⟩), .int .i64 s] w0 fun e w' => e = .returned v ∧ ∃ n, w' = w0.drewN n)) :
    Calls Try.prog 47 #[.pointer (some ⟨p, 0, none⟩), .int .i64 s, .int .u64 xmax, .agg #[.int .i64 np, .int .i64 ns]] w fun e w' => e = .returned (.int .i64 3) ∧ Chg [] w w' := by
  have HB := Lib.hid hb
  clear hb
  by_cases h1 : 1099511627776 < xmax
  · have d1 := decide_eq_true h1
    clear h h1
    go_enter Try.func47, Try.ntmps47
    go_wp2_with (first | (go_at_call 73; refine (HB.out _ ((Chg.refl _ _).alloc _)).out.mono ?_; rintro e w' ⟨rfl, n, rfl⟩))
    go_ret
    exact ⟨rfl, ((Chg.refl _ _).alloc _).drewN _⟩
  · have d1 := decide_eq_false h1
    have hf : farB np ns = true := by rcases h with h | h; exact absurd h h1; exact h
    have hfar := fun w => far_any np ns w
    rw [hf] at hfar
    have HF := Lib.hid hfar
    clear h h1 hf hfar
    go_enter Try.func47, Try.ntmps47
    go_wp2_with (first | (go_at_call 73; refine (HB.out _ ((Chg.refl _ _).alloc _)).out.mono ?_; rintro e w' ⟨rfl, n, rfl⟩) | (go_at_call 74; refine (HF.out _).mono ?_; rintro e w2 ⟨rfl, hC⟩; have HC := Lib.hid hC; clear hC))
    go_ret
    exact ⟨rfl, (((Chg.refl _ _).alloc _).drewN _).trans HC.out⟩

set_option maxRecDepth 100000 in
set_option maxHeartbeats 1000000 in
theorem stamp_none (p : Nat) (s xmax np ns : Int) (w : World) (h1 : xmax ≤ 1099511627776) (hf : farB np ns = false)
    (hb : ∀ w0, Chg [] w w0 → Hid (Calls Try.prog 73 #[.pointer (some ⟨p, 0, none⟩), .int .i64 s] w0 fun e w' => e = .returned (.slice none 0 0) ∧ ∃ n, w' = w0.drewN n)) :
    Calls Try.prog 47 #[.pointer (some ⟨p, 0, none⟩), .int .i64 s, .int .u64 xmax, .agg #[.int .i64 np, .int .i64 ns]] w fun e w' => e = .returned (.int .i64 15) ∧ Chg [] w w' := by
  have eq0 := @Lib.run_eql_slice_nil Try.prog
  have HB := Lib.hid hb
  have d1 : decide (1099511627776 < xmax) = false := decide_eq_false (by omega)
  have hfar := fun w => far_any np ns w
  rw [hf] at hfar
  have HF := Lib.hid hfar
  clear hb h1 hf hfar
  go_enter Try.func47, Try.ntmps47
  go_wp2_with (first | (go_at_call 73; refine (HB.out _ ((Chg.refl _ _).alloc _)).out.mono ?_; rintro e w' ⟨rfl, n, rfl⟩) | (go_at_call 74; refine (HF.out _).mono ?_; rintro e w2 ⟨rfl, hC⟩; have HC := Lib.hid hC; clear hC))
  go_ret
  exact ⟨rfl, (((Chg.refl _ _).alloc _).drewN _).trans HC.out⟩

set_option maxRecDepth 100000 in
set_option maxHeartbeats 4000000 in
theorem stamp_ok (p a z c : Nat) (f : Nat → Int) (s xmax np ns : Int) (w : World) (h1 : xmax ≤ 1099511627776) (hf : farB np ns = false) (hp : Lies w p f) (ha : a + z ≤ 512) (hz : 30 ≤ z) (hzc : z ≤ c)
    (hb : ∀ w0, Chg [] w w0 → Hid (Calls Try.prog 73 #[.pointer (some ⟨p, 0, none⟩), .int .i64 s] w0 fun e w' => e = .returned (.slice (some ⟨p, a, none⟩) z c) ∧ ∃ n, w' = w0.drewN n)) :
    Calls Try.prog 47 #[.pointer (some ⟨p, 0, none⟩), .int .i64 s, .int .u64 xmax, .agg #[.int .i64 np, .int .i64 ns]] w fun e w' => e = .returned (.int .i64 0) ∧ Lies w' p (stampF f a xmax np ns) ∧ Chg [p] w w' := by
  have eq0 := @Lib.run_eql_slice_nil Try.prog
  have HB := Lib.hid hb
  have d1 : decide (1099511627776 < xmax) = false := decide_eq_false (by omega)
  have hfar := fun w => far_any np ns w
  have hff := farB_false hf
  rw [hf] at hfar
  have HF := Lib.hid hfar
  have HP := Lib.hid hp
  have hlt := lt_of_heap hp
  have q1 : (16 : Int) ≤ (c : Int) := by omega
  have q2 : (24 : Int) ≤ (c : Int) := by omega
  have q3 : (28 : Int) ≤ (c : Int) := by omega
  have q4 : (30 : Int) ≤ (c : Int) := by omega
  have k1 : ¬ (c = 16) := by omega
  have k2 : ¬ (c = 24) := by omega
  have k3 : ¬ (c = 28) := by omega
  have e1 : IntKind.i64.wrap (np + 1) = np + 1 := IntWalk.i64_in _ (by omega)
  have e2 : IntKind.i64.wrap (ns + 1) = ns + 1 := IntWalk.i64_in _ (by omega)
  have e3 : IntKind.u64.wrap (np + 1) = np + 1 := IntWalk.u64_in _ (by omega)
  have e4 : IntKind.u64.wrap (ns + 1) = ns + 1 := IntWalk.u64_in _ (by omega)
  have HFF := Lib.hid hff
  clear hb h1 hf hfar hff hp
  have hg0 := heap_alloc_new w (.cells #[.int .i64 np, .int .i64 ns] 53)
  have HG0 := Lib.hid hg0
  clear hg0
  go_enter Try.func47, Try.ntmps47
  go_wp2_with (first | (go_at_call 73; refine (HB.out _ ((Chg.refl _ _).alloc _)).out.mono ?_; rintro e w' ⟨rfl, n, rfl⟩) | (go_at_call 74; refine (HF.out _).mono ?_; rintro e w2 ⟨rfl, hC⟩; have HG2 := Lib.hid (hC.heap (k := w.heap.size) (by exact HG0.out) (by simp)); have HP2 := Lib.hid (hC.heap (k := p) (by exact (Below.heap_alloc w _ _ hlt).trans HP.out) (by simp)); have HC2 := Lib.hid ((((Chg.refl [p] _).alloc _).drewN _).trans (hC.mono (by simp))); clear hC) | (go_at_call 75; refine (put_any p (a + 16) 8 _ 134 512 f xmax _ (by omega) (by omega) HP2.out).mono ?_; rintro e w3 ⟨rfl, hp3, hC3⟩; have b0 := two0 (hC3.heap (k := w.heap.size) HG2.out (by simp; omega)); have b1 := two1 (hC3.heap (k := w.heap.size) HG2.out (by simp; omega)); have HG3 := Lib.hid (hC3.heap (k := w.heap.size) HG2.out (by simp; omega)); have HP3 := Lib.hid hp3; have HC3 := Lib.hid (HC2.out.trans hC3); clear hp3 hC3))
  go_still_tail 6, (by kernel_rfl)
  go_wp2_with fail
  refine (put_any p (a + 24) 4 _ 134 512 _ (np + 1) _ (by omega) (by omega) (by exact HP3.out)).mono ?_
  rintro e w4 ⟨rfl, hp4, hC4⟩
  have y1 := two1 (hC4.heap (k := w.heap.size) (by exact HG3.out) (by simp; omega))
  have HP4 := Lib.hid hp4
  have HC4 := Lib.hid (HC3.out.drew.trans hC4)
  clear b0 b1 hp4 hC4
  go_wp2_with fail
  go_still_tail 6, (by kernel_rfl)
  go_wp2_with fail
  refine (put_any p (a + 28) 2 _ 134 512 _ (ns + 1) _ (by omega) (by omega) (by exact HP4.out)).mono ?_
  rintro e w5 ⟨rfl, hp5, hC5⟩
  have HP5 := Lib.hid hp5
  have HC5 := Lib.hid (HC4.out.drew.trans hC5)
  clear y1 hp5 hC5
  go_wp2_with fail
  go_ret
  exact ⟨rfl, HP5.out, HC5.out⟩

/-- A version stamped. -/
def Tup.stamp (t : Tup) (xmax np ns : Int) : Tup := { t with xmax := xmax, np := np, ns := ns }
theorem Tup.stamp_ok {t : Tup} (h : t.Ok) {xmax np ns : Int} (h0 : 0 ≤ xmax) (h1 : xmax ≤ 1099511627776) (hf : farB np ns = false) : (t.stamp xmax np ns).Ok := ⟨h.row, h.xmin, ⟨h0, h1⟩, hf, h.len, h.byte⟩
theorem stampF_out {f : Nat → Int} {a : Nat} {xmax np ns : Int} {i : Nat} (h : i < a + 16 ∨ a + 30 ≤ i) : stampF f a xmax np ns i = f i := by
  unfold stampF
  rw [splice_out (by omega), splice_out (by omega), splice_out (by omega)]
theorem stampF_bytes {f : Nat → Int} (a : Nat) (xmax np ns : Int) {N : Nat} (h : Bytes f N) : Bytes (stampF f a xmax np ns) N :=
  splice_bytes (splice_bytes (splice_bytes h (fun _ _ => byteAt_range _ _)) (fun _ _ => byteAt_range _ _)) (fun _ _ => byteAt_range _ _)
theorem stampF_at {f : Nat → Int} {xmax np ns : Int} {b : Nat} {t : Tup} (hd : ∀ i, i < t.size → f (b + i) = packB t i) (i : Nat) (hi : i < t.size) : stampF f b xmax np ns (b + i) = packB (t.stamp xmax np ns) i := by
  by_cases h1 : i < 16
  · rw [stampF_out (by omega), hd i hi]
    unfold packB Tup.stamp
    by_cases h2 : i < 8
    · rw [if_pos h2, if_pos h2]
    · rw [if_neg h2, if_neg h2, if_pos h1, if_pos h1]
  · by_cases h5 : 30 ≤ i
    · rw [stampF_out (by omega), hd i hi]
      unfold packB Tup.stamp
      rw [if_neg (by omega), if_neg (by omega), if_neg (by omega), if_neg (by omega), if_neg (by omega), if_neg (by omega), if_neg (by omega), if_neg (by omega), if_neg (by omega), if_neg (by omega)]
    · unfold stampF packB Tup.stamp
      rw [if_neg (by omega), if_neg (by omega)]
      by_cases h2 : i < 24
      · rw [if_pos h2, splice_out (by omega), splice_out (by omega), splice_in (by omega) (by omega)]
        congr 1; omega
      · rw [if_neg h2]
        by_cases h3 : i < 28
        · rw [if_pos h3, splice_out (by omega), splice_in (by omega) (by omega)]
          congr 1; omega
        · rw [if_neg h3, if_pos (by omega), splice_in (by omega) (by omega)]
          congr 1; omega

theorem set_get {α : Type} {L : List α} {s : Nat} {x : α} (k : Nat) (h : s < L.length) : (L.set s x)[k]? = if k = s then some x else L[k]? := by
  by_cases hk : k = s
  · subst hk; rw [if_pos rfl, List.getElem?_set_self h]
  · rw [if_neg hk, List.getElem?_set_ne (by omega)]

/-- A version's bytes are others, of the same length. -/
theorem PG.rewrite {f f' : Nat → Int} {L : PL} {fr : Nat → Nat} {st s : Nat} {t t' : Tup} (h : PG f L fr st) (hs : L[s]? = some (some t)) (hb : Bytes f' 512) (hz : t'.size = t.size) (ho : t'.Ok)
    (hout : ∀ i, i < fr s ∨ fr s + t.size ≤ i → f' i = f i) (hin : ∀ i, i < t.size → f' (fr s + i) = packB t' i) : PG f' (L.set s (some t')) fr st := by
  have hl := getElem?_lt hs
  have h1 := h.lo
  have h2 := h.hi
  have hls := h.lies s t hs
  have get := fun k => set_get (L := L) (x := some t') k hl
  have key : ∀ (k : Nat) (u : Tup), (L.set s (some t'))[k]? = some (some u) → (k = s ∧ u = t') ∨ (k ≠ s ∧ L[k]? = some (some u)) := by
    intro k u hu
    rw [get] at hu
    by_cases hk : k = s
    · rw [if_pos hk] at hu
      injection hu with hu
      injection hu with hu
      exact .inl ⟨hk, hu.symm⟩
    · rw [if_neg hk] at hu
      exact .inr ⟨hk, hu⟩
  have head : ∀ k, k < L.length → ∀ d, d < 4 → f' (4 + 4 * k + d) = f (4 + 4 * k + d) := fun k hk d hd => hout _ (by omega)
  refine ⟨hb, ?_, ?_, by simpa using h1, h2, ?_, ?_, ?_, ?_, ?_, ?_, ?_⟩
  · rw [u16_congr (g := f) (fun i _ h4 => hout i (by omega)), h.cnt]; simp
  · rw [u16_congr (g := f) (fun i _ h4 => hout i (by omega)), h.sta]
  · intro k hk
    rw [get] at hk
    by_cases hks : k = s
    · rw [if_pos hks] at hk; cases hk
    · rw [if_neg hks] at hk
      have hkl := getElem?_lt hk
      rw [u16_congr (g := f) (fun i h3 h4 => hout i (by omega))]
      exact h.free k hk
  · intro k u hu
    rcases key k u hu with ⟨rfl, rfl⟩ | ⟨hks, hk⟩
    · rw [u16_congr (g := f) (fun i h3 h4 => hout i (by omega)), u16_congr (g := f) (a := 4 + 4 * k + 2) (fun i h3 h4 => hout i (by omega)), hz]
      exact h.ptr k t hs
    · have hkl := getElem?_lt hk
      rw [u16_congr (g := f) (fun i h3 h4 => hout i (by omega)), u16_congr (g := f) (a := 4 + 4 * k + 2) (fun i h3 h4 => hout i (by omega))]
      exact h.ptr k u hk
  · intro k u hu
    rcases key k u hu with ⟨rfl, rfl⟩ | ⟨hks, hk⟩
    · rw [hz]; exact hls
    · exact h.lies k u hk
  · intro k u hu
    rcases key k u hu with ⟨rfl, rfl⟩ | ⟨hks, hk⟩
    · exact ho
    · exact h.ok k u hk
  · intro k u hu i hi
    rcases key k u hu with ⟨rfl, rfl⟩ | ⟨hks, hk⟩
    · rw [hz] at hi; exact hin i hi
    · have hap := h.apart k s u t hk hs hks
      rw [hout _ (by omega)]
      exact h.data k u hk i hi
  · intro k k' u u' hu hu' hne
    rcases key k u hu with ⟨rfl, rfl⟩ | ⟨hks, hk⟩ <;> rcases key k' u' hu' with ⟨rfl, rfl⟩ | ⟨hks', hk'⟩
    · exact absurd rfl hne
    · rw [hz]; exact h.apart _ _ _ _ hs hk' hne
    · rw [hz]; exact h.apart _ _ _ _ hk hs hne
    · exact h.apart _ _ _ _ hk hk' hne
  · have := total_set L s (some t') hl
    rw [List.getElem?_eq_getElem hl] at hs
    injection hs with hs
    rw [hs] at this
    have h3 := h.fits
    simp only [slotSize] at this
    rw [List.length_set]
    omega

theorem PG.stamp {f : Nat → Int} {L : PL} {fr : Nat → Nat} {st s : Nat} {t : Tup} (h : PG f L fr st) (hs : L[s]? = some (some t)) {xmax np ns : Int} (h0 : 0 ≤ xmax) (h1 : xmax ≤ 1099511627776) (hf : farB np ns = false) :
    PG (stampF f (fr s) xmax np ns) (L.set s (some (t.stamp xmax np ns))) fr st := by
  have hz := t.size_lo
  exact h.rewrite hs (stampF_bytes _ _ _ _ h.bytes) rfl (Tup.stamp_ok (h.ok s t hs) h0 h1 hf) (fun i hi => stampF_out (by omega)) (fun i hi => stampF_at (h.data s t hs) i hi)

end Go.Proofs.Yteokjaocnemmlaa
