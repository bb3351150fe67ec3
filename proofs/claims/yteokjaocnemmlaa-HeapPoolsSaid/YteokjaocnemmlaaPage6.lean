/-
  The walks of package page: Get, pack, Stamp.
-/
import Derived.Test.YteokjaocnemmlaaPage5
namespace Go.Proofs.Yteokjaocnemmlaa
open Go.RowKit

set_option maxRecDepth 100000 in
set_option maxHeartbeats 1000000 in
theorem get_val_used (p a z c : Nat) (s : Int) (t : Tup) (w : World)
    (hb : ∀ w0, Chg [] w w0 → Hid (Calls Try.prog 73 #[.pointer (some ⟨p, 0, none⟩), .int .i64 s] w0 fun e w' => e = .returned (.slice (some ⟨p, a, none⟩) z c) ∧ ∃ n, w' = w0.drewN n))
    (hu : ∀ w0, Chg [] w w0 → Hid (Calls Try.prog 80 #[.slice (some ⟨p, a, none⟩) z c] w0 fun e w' => ∃ A c', e = .returned (t.val (.slice A t.data.length c')) ∧ Cloned w0 w' (.slice A t.data.length c') t.data)) :
    Calls Try.prog 63 #[.pointer (some ⟨p, 0, none⟩), .int .i64 s] w fun e w' => GotOf w w' t e := by
  have eq0 := @Lib.run_eql_slice_nil Try.prog
  have HB := Lib.hid hb
  have HU := Lib.hid hu
  have hg0 := heap_alloc_new w (.cells #[.int .u64 0, .int .u64 0, .int .u64 0, .int .i64 0, .int .i64 0, .slice none 0 0] 59)
  have HG0 := Lib.hid hg0
  clear hb hu hg0
  go_enter Try.func63, Try.ntmps63
  go_wp2_with (first | (go_at_call 73; refine (HB.out _ ((Chg.refl _ _).alloc _)).out.mono ?_; rintro e w' ⟨rfl, n, rfl⟩) | (go_at_call 80; refine (HU.out _ (((Chg.refl _ _).alloc _).drewN n)).out.mono ?_; rintro e w' ⟨A, c', rfl, hcl⟩; have x0 := hcl.2.1.cell (p := ⟨w.heap.size, 0, none⟩) (one6 HG0.out 0 (by omega)) (by simp); have u0 := hcl.2.1.free (p := ⟨w.heap.size, 0, none⟩) (by simp) (frozen_of_row _ w.heap.size 0 _ 59 HG0.out) (by simp); have x1 := hcl.2.1.cell (p := ⟨w.heap.size, 1, none⟩) (one6 HG0.out 1 (by omega)) (by simp); have u1 := hcl.2.1.free (p := ⟨w.heap.size, 1, none⟩) (by simp) (frozen_of_row _ w.heap.size 1 _ 59 HG0.out) (by simp); have x2 := hcl.2.1.cell (p := ⟨w.heap.size, 2, none⟩) (one6 HG0.out 2 (by omega)) (by simp); have u2 := hcl.2.1.free (p := ⟨w.heap.size, 2, none⟩) (by simp) (frozen_of_row _ w.heap.size 2 _ 59 HG0.out) (by simp); have x3 := hcl.2.1.cell (p := ⟨w.heap.size, 3, none⟩) (one6 HG0.out 3 (by omega)) (by simp); have u3 := hcl.2.1.free (p := ⟨w.heap.size, 3, none⟩) (by simp) (frozen_of_row _ w.heap.size 3 _ 59 HG0.out) (by simp); have x4 := hcl.2.1.cell (p := ⟨w.heap.size, 4, none⟩) (one6 HG0.out 4 (by omega)) (by simp); have u4 := hcl.2.1.free (p := ⟨w.heap.size, 4, none⟩) (by simp) (frozen_of_row _ w.heap.size 4 _ 59 HG0.out) (by simp); have x5 := hcl.2.1.cell (p := ⟨w.heap.size, 5, none⟩) (one6 HG0.out 5 (by omega)) (by simp); have u5 := hcl.2.1.free (p := ⟨w.heap.size, 5, none⟩) (by simp) (frozen_of_row _ w.heap.size 5 _ 59 HG0.out) (by simp); have HCL := Lib.hid hcl; have HG1 := Lib.hid (hcl.2.1.heap (k := w.heap.size) (by exact HG0.out) (by simp)); clear hcl; unfold Tup.val))
  refine bodyPost_ret (results_row_tmp rfl _ _ w.heap.size _ _ rfl rfl (load59 (set6 HG1.out _ _ _ _ _ _))) rfl ?_
  refine ⟨A, c', rfl, ?_⟩
  obtain ⟨h1, h2, h3⟩ := HCL.out
  refine ⟨?_, ?_, fun k hk => ?_⟩
  · exact Own.chg h1 (chg6 (Chg.refl [w.heap.size] _) (by simp) _ _ _ _ _ _) (fun k hk => by have := h3 k hk; simp at this ⊢; omega)
  · exact chg6 ((((Chg.refl [] w).alloc _).drewN n).trans h2) (.inr (Nat.le_refl _)) _ _ _ _ _ _
  · have := h3 k hk; simp at this ⊢; omega

section
variable {p : Nat} {f : Nat → Int} {L : PL} {fr : Nat → Nat} {st : Nat} {w : World}
theorem pget_used (h : PG f L fr st) (hp : Lies w p f) {s : Nat} {t : Tup} (hs : L[s]? = some (some t)) :
    Calls Try.prog 63 #[.pointer (some ⟨p, 0, none⟩), .int .i64 s] w fun e w' => GotOf w w' t e :=
  get_val_used p (fr s) t.size (512 - fr s) s t w (fun _ hc => Lib.hid (pbytes_used h (hc.heap hp (by simp)) hs))
    (fun w0 hc => Lib.hid (unpack_ver p (fr s) f t w0 h.bytes (hc.heap hp (by simp)) (h.lies s t hs).2 (h.ok s t hs) (h.data s t hs)))
theorem pget_none (h : PG f L fr st) (hp : Lies w p f) (s : Int) (hs : s < 0 ∨ ∀ t, L[s.toNat]? ≠ some (some t)) :
    Calls Try.prog 63 #[.pointer (some ⟨p, 0, none⟩), .int .i64 s] w fun e w' => GotNone w w' e :=
  get_val_none _ s w (fun _ hc => Lib.hid (pbytes_none h (hc.heap hp (by simp)) s hs))
theorem pget_nil (s : Int) : Calls Try.prog 63 #[.pointer none, .int .i64 s] w fun e w' => GotNone w w' e :=
  get_val_none _ s w (fun w0 _ => Lib.hid ((bytesOf_nil s w0).mono fun _ _ ⟨he, hw⟩ => ⟨he, 0, hw.symm⟩))
end

/-! ### pack -/
theorem make30 (w : World) : (Instr.makeSlice 57 (.int .i64 30) (.int .i64 30)).run Try.prog w = .ok (.slice (some ⟨w.heap.size, 0, none⟩) 30 30) (w.alloc (ints .u8 5 30 (fun _ => 0))) := by kernel_rfl

theorem own_ints {w : World} {b t N : Nat} {g : Nat → Int} (h : w.heap[b]? = some (ints .u8 t N g)) (hN : N ≤ maxLen) : Own w t 1 (.slice (some ⟨b, 0, none⟩) N N) N (bvals ((List.range N).map g)) := by
  refine ⟨by simp [bvals], .inr ⟨b, N, row .u8 N g, rfl, Nat.zero_le _, h, Nat.le_refl _, hN, by simp [row_size], ?_⟩⟩
  simp only [row, bvals, List.map_map, Nat.mul_one]
  rw [List.take_of_length_le (by simp)]
  rfl
theorem Src1.chg {w w' : World} {S : List Nat} {size m : Nat} {vx : Value} {news : List Value} (h : Src1 w size vx m news) (hc : Chg S w w') (hS : ∀ x, x ∈ S → w.heap.size ≤ x) : Src1 w' size vx m news := by
  refine ⟨h.1, h.2.1, ?_⟩
  rcases h.2.2 with h | ⟨ad, c', h, h2⟩
  · exact .inl h
  · exact .inr ⟨ad, c', h, fun j u hu => by
      have h3 := h2 j u hu
      exact hc.cell h3 (fun hx => by have h4 := hS _ hx; have h5 := World.block_lt_of_cell? _ _ h3; omega)⟩
/-- The thirty bytes ahead of a version's data. -/
def headB (row xmin xmax np ns : Int) : Nat → Int :=
  splice (splice (splice (splice (splice (fun _ => 0) 0 8 (byteAt row)) 8 8 (byteAt xmin)) 16 8 (byteAt xmax)) 24 4 (byteAt (np + 1))) 28 2 (byteAt (ns + 1))

set_option maxRecDepth 100000 in
set_option maxHeartbeats 4000000 in
theorem pack_any (row xmin xmax np ns : Int) (A : Option Addr) (n c : Nat) (l : List Int) (w : World) (hnp : -1 ≤ np ∧ np < 65536) (hns : -1 ≤ ns ∧ ns < 65535) (hl : l.length = n) (hn : n ≤ 200) (hsrc : Src1 w 1 (.slice A n c) n (bvals l)) :
    Calls Try.prog 68 #[.agg #[.int .u64 row, .int .u64 xmin, .int .u64 xmax, .int .i64 np, .int .i64 ns, .slice A n c]] w fun e w' => ∃ A' c', e = .returned (.slice A' (30 + n) c') ∧ Cloned w w' (.slice A' (30 + n) c') ((List.range 30).map (headB row xmin xmax np ns) ++ l) := by
  have hmk := make30
  have n1 := hnp.1
  have n2 := hnp.2
  have n3 := hns.1
  have n4 := hns.2
  have HS := Lib.hid hsrc
  have e1 : IntKind.i64.wrap (np + 1) = np + 1 := IntWalk.i64_in _ (by omega)
  have e2 : IntKind.i64.wrap (ns + 1) = ns + 1 := IntWalk.i64_in _ (by omega)
  have e3 : IntKind.u64.wrap (np + 1) = np + 1 := IntWalk.u64_in _ (by omega)
  have e4 : IntKind.u64.wrap (ns + 1) = ns + 1 := IntWalk.u64_in _ (by omega)
  clear hnp hns hsrc
  go_enter Try.func68, Try.ntmps68
  go_wp2_with fail
  clear hmk
  -- the box of the version, the new slice
  generalize hw1 : w.alloc _ = wb
  have hb1 : wb.heap[w.heap.size]? = some (.cells #[.int .u64 row, .int .u64 xmin, .int .u64 xmax, .int .i64 np, .int .i64 ns, .slice A n c] 59 (0, 0)) := by rw [← hw1]; exact heap_alloc_new w _
  have hsz : wb.heap.size = w.heap.size + 1 := by rw [← hw1]; simp
  have hC0 : Chg [w.heap.size + 1] w wb := by rw [← hw1]; exact (Chg.refl _ _).alloc _
  clear hw1
  generalize hw2 : wb.alloc _ = w0
  have hp0 : w0.heap[w.heap.size + 1]? = some (ints .u8 5 30 (fun _ => 0)) := by rw [← hw2, ← hsz]; exact heap_alloc_new wb _
  have hb0 : w0.heap[w.heap.size]? = some (.cells #[.int .u64 row, .int .u64 xmin, .int .u64 xmax, .int .i64 np, .int .i64 ns, .slice A n c] 59 (0, 0)) := by rw [← hw2]; exact (Below.heap_alloc _ _ _ (by omega)).trans hb1
  have hC : Chg [w.heap.size + 1] w w0 := by rw [← hw2]; exact hC0.alloc _
  clear hw2 hb1 hC0
  have HSZ := Lib.hid hsz
  have HC := Lib.hid hC
  clear hsz hC
  have v0 := one6 hb0 0 (by omega)
  simp only [List.getElem_toArray, List.getElem_cons_zero] at v0
  have HB0 := Lib.hid hb0
  have HP0 := Lib.hid hp0
  clear hb0 hp0
  go_still_tail 4, (by kernel_rfl)
  go_wp2_with fail
  refine (put_any (w.heap.size + 1) 0 8 _ 5 30 _ row _ (by omega) (by omega) (by exact HP0.out)).mono ?_
  rintro e w1 ⟨rfl, hp1, hC1⟩
  have hb1 := hC1.heap (k := w.heap.size) (by exact HB0.out) (by simp)
  have HC1 := Lib.hid hC1
  clear v0 hC1
  go_wp2_with fail
  have v1 := one6 hb1 1 (by omega)
  simp only [List.getElem_toArray, List.getElem_cons_zero, List.getElem_cons_succ] at v1
  have HB1 := Lib.hid hb1
  have HP1 := Lib.hid hp1
  clear hb1 hp1
  go_still_tail 4, (by kernel_rfl)
  go_wp2_with fail
  refine (put_any (w.heap.size + 1) 8 8 _ 5 30 _ xmin _ (by omega) (by omega) (by exact HP1.out)).mono ?_
  rintro e w2 ⟨rfl, hp2, hC2⟩
  have hb2 := hC2.heap (k := w.heap.size) (by exact HB1.out) (by simp)
  have HC2 := Lib.hid hC2
  clear v1 hC2
  go_wp2_with fail
  have v2 := one6 hb2 2 (by omega)
  simp only [List.getElem_toArray, List.getElem_cons_zero, List.getElem_cons_succ] at v2
  have HB2 := Lib.hid hb2
  have HP2 := Lib.hid hp2
  clear hb2 hp2
  go_still_tail 4, (by kernel_rfl)
  go_wp2_with fail
  refine (put_any (w.heap.size + 1) 16 8 _ 5 30 _ xmax _ (by omega) (by omega) (by exact HP2.out)).mono ?_
  rintro e w3 ⟨rfl, hp3, hC3⟩
  have hb3 := hC3.heap (k := w.heap.size) (by exact HB2.out) (by simp)
  have HC3 := Lib.hid hC3
  clear v2 hC3
  go_wp2_with fail
  have v3 := one6 hb3 3 (by omega)
  simp only [List.getElem_toArray, List.getElem_cons_zero, List.getElem_cons_succ] at v3
  have HB3 := Lib.hid hb3
  have HP3 := Lib.hid hp3
  clear hb3 hp3
  go_still_tail 7, (by kernel_rfl)
  go_wp2_with fail
  refine (put_any (w.heap.size + 1) 24 4 _ 5 30 _ (np + 1) _ (by omega) (by omega) (by exact HP3.out)).mono ?_
  rintro e w4 ⟨rfl, hp4, hC4⟩
  have hb4 := hC4.heap (k := w.heap.size) (by exact HB3.out) (by simp)
  have HC4 := Lib.hid hC4
  clear v3 hC4
  go_wp2_with fail
  have v4 := one6 hb4 4 (by omega)
  simp only [List.getElem_toArray, List.getElem_cons_zero, List.getElem_cons_succ] at v4
  have HB4 := Lib.hid hb4
  have HP4 := Lib.hid hp4
  clear hb4 hp4
  go_still_tail 7, (by kernel_rfl)
  go_wp2_with fail
  refine (put_any (w.heap.size + 1) 28 2 _ 5 30 _ (ns + 1) _ (by omega) (by omega) (by exact HP4.out)).mono ?_
  rintro e w5 ⟨rfl, hp5, hC5⟩
  have hb5 := hC5.heap (k := w.heap.size) (by exact HB4.out) (by simp)
  have HC5 := Lib.hid hC5
  have v5 := one6 hb5 5 (by omega)
  simp only [List.getElem_toArray, List.getElem_cons_zero, List.getElem_cons_succ] at v5
  have hCC : Chg [w.heap.size + 1] w w5 := ((((HC.out.drew.trans HC1.out).drew.trans HC2.out).drew.trans HC3.out).drew.trans HC4.out).drew.trans HC5.out
  have OWN0 := Lib.hid (own_ints hp5 (by unfold maxLen; omega))
  have SRC0 := Lib.hid (HS.out.chg hCC (by simp))
  have HCC := Lib.hid hCC
  have HLN : Hid (bvals ((List.range 30).map (headB row xmin xmax np ns)) ++ bvals l = bvals ((List.range 30).map (headB row xmin xmax np ns) ++ l)) := Lib.hid (by simp [bvals])
  have HL := Lib.hid hl
  clear v4 hC5 hb5 hp5 hCC hl
  go_wp2_with (at_builtin; refine wpList_app rfl (.tmp 36) (.tmp 38) 57 rfl 5 1 1 El57 (.slice (some ⟨w.heap.size + 1, 0, none⟩) 30 30) 30 _ rfl OWN0.out (.slice A n c) n (bvals l) rfl SRC0.out (30 + n) _ rfl HLN.out (by unfold maxLen; omega) (by omega) ?_; intro A1 c1 w6 a1; have HA := Lib.hid a1; clear a1)
  go_ret
  refine ⟨A1, c1, rfl, ?_, ?_, fun k hk => ?_⟩
  · unfold IsBytes
    rw [show ((List.range 30).map (headB row xmin xmax np ns) ++ l).length = 30 + n by rw [List.length_append, HL.out]; simp]
    exact HA.out.own
  · have h6 := HCC.out.trans' HA.out.chg (by simp [Value.ownBlock])
    exact ⟨h6.os, h6.tape, h6.output, h6.size, fun x hx _ => h6.block x hx (by simp; omega)⟩
  · rcases HA.out.at_ k hk with h | h
    · simp [Value.ownBlock] at h; omega
    · have := HCC.out.size; omega

/-- A version's bytes, as a list. -/
def packL (t : Tup) : List Int := (List.range 30).map (headB t.row t.xmin t.xmax t.np t.ns) ++ t.data
theorem packL_length (t : Tup) : (packL t).length = t.size := by simp [packL, Tup.size]
theorem headB_packB (t : Tup) (i : Nat) (h : i < 30) : headB t.row t.xmin t.xmax t.np t.ns i = packB t i := by
  unfold headB packB
  by_cases h1 : i < 8
  · rw [if_pos h1, splice_out (by omega), splice_out (by omega), splice_out (by omega), splice_out (by omega), splice_in (by omega) (by omega), Nat.sub_zero]
  · rw [if_neg h1]
    by_cases h2 : i < 16
    · rw [if_pos h2, splice_out (by omega), splice_out (by omega), splice_out (by omega), splice_in (by omega) (by omega)]
    · rw [if_neg h2]
      by_cases h3 : i < 24
      · rw [if_pos h3, splice_out (by omega), splice_out (by omega), splice_in (by omega) (by omega)]
      · rw [if_neg h3]
        by_cases h4 : i < 28
        · rw [if_pos h4, splice_out (by omega), splice_in (by omega) (by omega)]
        · rw [if_neg h4, if_pos h, splice_in (by omega) (by omega)]
theorem packL_getD (t : Tup) (i : Nat) : (packL t).getD i 0 = packB t i := by
  unfold packL
  by_cases h1 : i < 30
  · rw [← headB_packB t i h1]
    simp [List.getElem?_append, h1]
  · unfold packB
    rw [if_neg (by omega), if_neg (by omega), if_neg (by omega), if_neg (by omega), if_neg (by omega)]
    simp [List.getElem?_append, h1]
theorem packB_range {t : Tup} (ho : t.Ok) (i : Nat) : 0 ≤ packB t i ∧ packB t i ≤ 255 := by
  unfold packB
  split
  · exact byteAt_range _ _
  · split
    · exact byteAt_range _ _
    · split
      · exact byteAt_range _ _
      · split
        · exact byteAt_range _ _
        · split
          · exact byteAt_range _ _
          · by_cases h : i - 30 < t.data.length
            · have := ho.byte (t.data[i - 30]) (List.getElem_mem _)
              simpa [h] using this
            · simp [h]

/-- pack, of a version. -/
theorem pack_ver (t : Tup) (A : Option Addr) (c : Nat) (w : World) (ho : t.Ok) (hsrc : Src1 w 1 (.slice A t.data.length c) t.data.length (bvals t.data)) :
    Calls Try.prog 68 #[t.val (.slice A t.data.length c)] w fun e w' => ∃ A' c', e = .returned (.slice A' t.size c') ∧ Cloned w w' (.slice A' t.size c') (packL t) := by
  have hf := farB_false ho.far
  exact pack_any t.row t.xmin t.xmax t.np t.ns A t.data.length c t.data w (by omega) (by omega) rfl ho.len hsrc

end Go.Proofs.Yteokjaocnemmlaa
