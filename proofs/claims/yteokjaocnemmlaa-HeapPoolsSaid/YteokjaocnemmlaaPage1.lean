/-
  The walks of package page, the small ones: num, put, and what reads and writes a page's head and pointers.
-/
import Derived.Test.YteokjaocnemmlaaRows
import Derived.Test.YteokjaocnemmlaaBytes
namespace Go.Proofs.Yteokjaocnemmlaa
open Go.RowKit

theorem ret_i {k : IntKind} {a b : Int} (h : a = b) : Ending.returned (.int k a) = .returned (.int k b) := by rw [h]
theorem le_small {g : Nat → Int} {n : Nat} (h : Bytes g n) (hn : n ≤ 7) : 0 ≤ le g n ∧ le g n < 72057594037927936 := by
  have h1 := le_range h
  have h2 : (256 : Int) ^ n ≤ 72057594037927936 := by
    match n, hn with
    | 0, _ | 1, _ | 2, _ | 3, _ | 4, _ | 5, _ | 6, _ | 7, _ => decide
  exact ⟨h1.1, Int.lt_of_lt_of_le h1.2 h2⟩

set_option maxRecDepth 100000 in
set_option maxHeartbeats 1000000 in
theorem num_any (b off n cap : Nat) (g : Nat → Int) (w : World) (hn : n ≤ 8) (hg : Bytes g n) (hc : ∀ i, i < n → w.cell? ⟨b, off + i, none⟩ = some (.int .u8 (g i))) :
    Calls Try.prog 81 #[.slice (some ⟨b, off, none⟩) n cap] w fun e w' => e = .returned (.int .u64 (le g n)) ∧ w = w' := by
  go_enter Try.func81, Try.ntmps81
  go_wp2
  go_loop [3, 4] (fun v i => ∃ k : Nat, k ≤ n ∧ i = .int .i64 ((k : Int) - 1) ∧ v = .int .u64 (le (fun j => g (k + j)) (n - k))) (fun _ i => (intOf i + 1).toNat)
  case atStart => exact ⟨n, by omega, rfl, by simp [le]⟩
  case round =>
    obtain ⟨k, hk, rfl, rfl⟩ := hrel
    obtain ⟨v, hv⟩ : ∃ v, v = le (fun j => g (k + j)) (n - k) := ⟨_, rfl⟩
    rw [← hv]
    have HV := Lib.hid hv
    clear hv
    by_cases h1 : 1 ≤ k
    · obtain ⟨m, rfl⟩ : ∃ m, k = m + 1 := ⟨k - 1, by omega⟩
      have hcm := hc m (by omega)
      have hgm := hg m (by omega)
      have hb1 := hgm.1
      have hb2 := hgm.2
      have hvs := le_small (g := fun j => g (m + 1 + j)) (n := n - (m + 1)) (fun i hi => hg _ (by omega)) (by omega)
      have hv1 : 0 ≤ v := by rw [HV.out]; exact hvs.1
      have hv2 : v < 72057594037927936 := by rw [HV.out]; exact hvs.2
      clear hgm hc hvs
      have e1 : ((m + 1 : Nat) : Int) - 1 = (m : Int) := by omega
      rw [e1]
      clear e1
      go_wp2
      go_round
      case measure => simp [intOf]
      case rel =>
        refine ⟨m, by omega, rfl, ?_⟩
        rw [or_byte v (g m) hv1 hb1 hb2 hv2, show n - m = (n - (m + 1)) + 1 by omega]
        simp only [le]
        rw [show (fun i => g (m + (i + 1))) = (fun j => g (m + 1 + j)) by funext i; rw [show m + (i + 1) = m + 1 + i by omega]]
        rw [← HV.out, Nat.add_zero, show v * 256 + g m = g m + 256 * v by omega]
    · have : k = 0 := by omega
      subst this
      clear hc
      go_wp2
      go_ret
      refine ⟨ret_i ?_, rfl⟩
      rw [HV.out]
      simp

set_option maxRecDepth 100000 in
set_option maxHeartbeats 1000000 in
theorem put_any (b off n cap t N : Nat) (f : Nat → Int) (x : Int) (w : World) (hn : n ≤ 8) (hN : off + n ≤ N) (hb : w.heap[b]? = some (ints .u8 t N f)) :
    Calls Try.prog 75 #[.slice (some ⟨b, off, none⟩) n cap, .int .u64 x] w fun e w' => e = .returned (.tuple #[]) ∧ w'.heap[b]? = some (ints .u8 t N (splice f off n (byteAt x))) ∧ Chg [b] w w' := by
  go_enter Try.func75, Try.ntmps75
  go_wp2
  go_loopw [7] (fun i wr => ∃ k : Nat, k ≤ n ∧ i = .int .i64 k ∧ wr.heap[b]? = some (ints .u8 t N (splice f off k (byteAt x))) ∧ Chg [b] w wr) (fun i _ => n - (intOf i).toNat)
  case atStart => exact ⟨0, by omega, rfl, by rw [splice_zero]; exact hb, Chg.refl _ _⟩
  case round =>
    obtain ⟨k, hk, rfl, hbr, hC⟩ := hrel
    have HB := Lib.hid hbr
    have HC := Lib.hid hC
    by_cases hlt : k < n
    · have hcc := ints_cell hbr (i := off + k) (by omega)
      have hfc := ints_frozen hbr (off + k)
      clear hbr hC hb
      go_wp2
      go_roundw
      case measure => simp [intOf]; omega
      case rel =>
        refine ⟨k + 1, by omega, by go_num, ?_, HC.out.setCell (by simp) _⟩
        rw [byteAt_two, ← splice_succ]
        exact ints_set HB.out _ _
    · have : k = n := by omega
      subst this
      clear hb hbr hC
      go_wp2
      go_end0
      exact ⟨rfl, HB.out, HC.out⟩

/-! ### A page: its bytes -/
def cntF (f : Nat → Int) : Int := f 0 + 256 * f 1
def staF (f : Nat → Int) : Int := f 2 + 256 * f 3
def fromF (f : Nat → Int) (s : Nat) : Int := f (4 + 4 * s) + 256 * f (4 + 4 * s + 1)
def sizF (f : Nat → Int) (s : Nat) : Int := f (4 + 4 * s + 2) + 256 * f (4 + 4 * s + 3)

theorem cells_of {w : World} {b t N : Nat} {f : Nat → Int} (h : w.heap[b]? = some (ints .u8 t N f)) {off n : Nat} (hN : off + n ≤ N) : ∀ i, i < n → w.cell? ⟨b, off + i, none⟩ = some (.int .u8 (f (off + i))) := fun i hi => ints_cell h (by omega)
theorem bytes_of {f : Nat → Int} {N off n : Nat} (h : Bytes f N) (hN : off + n ≤ N) : Bytes (fun i => f (off + i)) n := fun i hi => h _ (by omega)

set_option maxRecDepth 100000 in
theorem count_any (p : Nat) (f : Nat → Int) (w : World) (hf : Bytes f 512) (hp : w.heap[p]? = some (ints .u8 134 512 f)) :
    Calls Try.prog 69 #[.pointer (some ⟨p, 0, none⟩)] w fun e w' => e = .returned (.int .i64 (cntF f)) ∧ w = w' := by
  have hnum := num_any p 0 2 512 (fun i => f (0 + i)) w (by omega) (bytes_of hf (by omega)) (cells_of hp (by omega))
  rw [le2] at hnum
  have hb := bytes_of (off := 0) (n := 2) hf (by omega)
  have b0 := hb 0 (by omega)
  have b1 := hb 1 (by omega)
  simp only [Nat.zero_add] at hnum b0 b1
  obtain ⟨c, hc⟩ : ∃ c, c = f 0 + 256 * f 1 := ⟨_, rfl⟩
  rw [← hc] at hnum
  have hc0 : 0 ≤ c := by omega
  have hc1 : c ≤ 65535 := by omega
  have HN := Lib.hid hnum
  have HC := Lib.hid hc
  clear hnum hb b0 b1 hc
  go_enter Try.func69, Try.ntmps69
  go_wp2_with (first | (go_at_call 81; refine HN.out.mono ?_; rintro e w' ⟨rfl, rfl⟩))
  go_ret
  exact ⟨ret_i HC.out, rfl⟩

set_option maxRecDepth 100000 in
theorem start_any (p : Nat) (f : Nat → Int) (w : World) (hf : Bytes f 512) (hp : w.heap[p]? = some (ints .u8 134 512 f)) :
    Calls Try.prog 70 #[.pointer (some ⟨p, 0, none⟩)] w fun e w' => e = .returned (.int .i64 (staF f)) ∧ w = w' := by
  have hnum := num_any p 2 2 510 (fun i => f (2 + i)) w (by omega) (bytes_of hf (by omega)) (cells_of hp (by omega))
  rw [le2] at hnum
  have hb := bytes_of (off := 2) (n := 2) hf (by omega)
  have b0 := hb 0 (by omega)
  have b1 := hb 1 (by omega)
  simp only [Nat.add_zero] at hnum b0 b1
  obtain ⟨c, hc⟩ : ∃ c, c = f 2 + 256 * f (2 + 1) := ⟨_, rfl⟩
  rw [← hc] at hnum
  have hc0 : 0 ≤ c := by omega
  have hc1 : c ≤ 65535 := by omega
  have HN := Lib.hid hnum
  have HC := Lib.hid hc
  clear hnum hb b0 b1 hc
  go_enter Try.func70, Try.ntmps70
  go_wp2_with (first | (go_at_call 81; refine HN.out.mono ?_; rintro e w' ⟨rfl, rfl⟩))
  go_ret
  exact ⟨ret_i HC.out, rfl⟩

/-- A page whose head is that. -/
def setF (f : Nat → Int) (c s : Int) : Nat → Int := splice (splice f 0 2 (byteAt c)) 2 2 (byteAt s)

set_option maxRecDepth 100000 in
theorem setp_any (p : Nat) (f : Nat → Int) (c s : Int) (w : World) (hc0 : 0 ≤ c) (hc1 : c ≤ 65535) (hs0 : 0 ≤ s) (hs1 : s ≤ 65535) (hp : w.heap[p]? = some (ints .u8 134 512 f)) :
    Calls Try.prog 64 #[.pointer (some ⟨p, 0, none⟩), .int .i64 c, .int .i64 s] w fun e w' => e = .returned (.tuple #[]) ∧ w'.heap[p]? = some (ints .u8 134 512 (setF f c s)) ∧ Chg [p] w w' := by
  go_enter Try.func64, Try.ntmps64
  go_wp2_with fail
  refine (put_any p 0 2 512 134 512 f c _ (by omega) (by omega) hp).mono ?_
  rintro e w1 ⟨rfl, h1, hC1⟩
  have H1 := Lib.hid h1
  have HC1 := Lib.hid hC1
  clear h1 hC1 hp
  go_wp2_with fail
  refine (put_any p 2 2 510 134 512 _ s _ (by omega) (by omega) H1.out).mono ?_
  rintro e w2 ⟨rfl, h2, hC2⟩
  have H2 := Lib.hid h2
  have HC2 := Lib.hid hC2
  clear h2 hC2
  go_wp2
  go_end0
  exact ⟨rfl, H2.out, HC1.out.trans HC2.out⟩
end Go.Proofs.Yteokjaocnemmlaa
