/-
  The walks of the law's own: wide, awake.
-/
import Derived.Test.YteokjaocnemmlaaHeap7
namespace Go.Proofs.Yteokjaocnemmlaa
open Go.RowKit

def wideT : Tup := ⟨1, 1, 0, -1, -1, List.replicate 200 0⟩
theorem wideT_len : 200 = wideT.data.length := (List.length_replicate ..).symm
theorem wideT_ok : wideT.Ok := by
  refine ⟨⟨by decide, by decide⟩, ⟨by decide, by decide⟩, ⟨by decide, by decide⟩, rfl, Nat.le_of_eq wideT_len.symm, ?_⟩
  intro x hx
  have : x = 0 := List.eq_of_mem_replicate hx
  omega
theorem make200 (w : World) : (Instr.makeSlice 57 (.int .i64 200) (.int .i64 200)).run Try.prog w = .ok (.slice (some ⟨w.heap.size, 0, none⟩) 200 200) (w.alloc (ints .u8 5 200 (fun _ => 0))) := by kernel_rfl
theorem zeros_src {w : World} {b T N k : Nat} (h : w.heap[b]? = some (ints .u8 T N (fun _ => 0))) (hk : k ≤ N) (c : Nat) : Src1 w 1 (.slice (some ⟨b, 0, none⟩) k c) k (bvals (List.replicate k 0)) := by
  refine ⟨by simp [bvals], bvals_one _, .inr ⟨_, _, rfl, fun j u hu => ?_⟩⟩
  rw [Go.WideShapes.add_plain]
  have hj : j < k := by
    have := getElem?_lt hu
    simpa [bvals] using this
  rw [show 0 + j = j by omega, ints_cell h (by omega)]
  rw [← hu]
  simp [bvals, hj]

set_option maxRecDepth 100000 in
set_option maxHeartbeats 1000000 in
theorem wide_any (w : World) : Calls Try.prog 40 #[] w fun e w' => ∃ b, e = .returned (.agg #[.int .u64 1, .int .u64 1, .int .u64 0, .int .i64 (-1), .int .i64 (-1), .slice (some ⟨b, 0, none⟩) 200 200]) ∧ w.heap.size ≤ b ∧ w'.heap[b]? = some (ints .u8 5 200 (fun _ => 0)) ∧ Chg [] w w' := by
  have hmk := make200
  go_enter Try.func40, Try.ntmps40
  go_wp2
  refine bodyPost_ret (results_cell_row rfl _ _ w.heap.size 59 #[.int .u64 1, .int .u64 1, .int .u64 0, .int .i64 (-1), .int .i64 (-1), .slice (some ⟨w.heap.size + 1, 0, none⟩) 200 200] (0, 0) _ rfl ?_ Try.underlying59 rfl (by kernel_rfl)) rfl ?_
  · exact (Below.heap_alloc _ _ _ (by simp)).trans (heap_alloc_new w _)
  · exact ⟨w.heap.size + 1, rfl, by omega, heap_alloc2_new w _ _, ((Chg.refl [] w).alloc _).alloc _⟩

theorem cell2_new (w : World) (t : Nat) (u v x y : Value) :
    (((w.alloc (.cells #[x, y] t)).setCell ⟨w.heap.size, 0, none⟩ u).setCell ⟨w.heap.size, 1, none⟩ v).heap[w.heap.size]? = some (.cells #[u, v] t (0, 0)) := set2 (heap_alloc_new w _) u v

/-- The pages of the law's example, as they grow. -/
def aw1 : List PL := [[some wideT]]
def aw2 : List PL := [[some wideT, some wideT]]
def aw3 : List PL := [[none, some wideT]]

def wideV (b : Nat) : Value := .agg #[.int .u64 1, .int .u64 1, .int .u64 0, .int .i64 (-1), .int .i64 (-1), .slice (some ⟨b, 0, none⟩) 200 200]
section
variable {w : World} {pl b : Nat} {G : HG}
theorem wide_src (hb : w.heap[b]? = some (ints .u8 5 200 (fun _ => 0))) : Src1 w 1 (.slice (some ⟨b, 0, none⟩) 200 200) 200 (bvals wideT.data) := zeros_src hb (Nat.le_refl _) 200
theorem ins_w1 (h : HeapAt w pl G []) (hp : PoolAt w pl 1) (hb : w.heap[b]? = some (ints .u8 5 200 (fun _ => 0))) (hbf : b ∉ pl :: G.foot) :
    Calls Try.prog 24 #[.pointer (some ⟨G.hb, 0, none⟩), wideV b] w fun e w' => e = .returned (.tuple #[V53 0 0, .int .i64 0]) ∧ (∃ G', G'.hb = G.hb ∧ HeapAt w' pl G' aw1 ∧ (∀ x, x ∈ G'.foot → x ∈ G.foot ∨ w.heap.size ≤ x)) ∧ PoolAt w' pl 0 ∧ Chg (pl :: G.foot) w w' := by
  have := hinsert_new h hp wideT (some ⟨b, 0, none⟩) 200 200 0 (by intro k hk; injection hk with hk; subst hk; exact hbf) wideT_len wideT_ok (wide_src hb) rfl rfl (by simp)
  exact this
theorem ins_w2 (h : HeapAt w pl G aw1) (hb : w.heap[b]? = some (ints .u8 5 200 (fun _ => 0))) :
    Calls Try.prog 24 #[.pointer (some ⟨G.hb, 0, none⟩), wideV b] w fun e w' => e = .returned (.tuple #[V53 0 1, .int .i64 0]) ∧ HeapAt w' pl G aw2 ∧ Chg G.foot w w' := by
  have := hinsert_old h wideT (some ⟨b, 0, none⟩) 200 200 0 [some wideT] wideT_len wideT_ok (wide_src hb) (by kernel_rfl) (by kernel_rfl) rfl (of_decide_eq_true (by kernel_rfl))
  exact this
theorem ins_w3 (h : HeapAt w pl G aw2) (hp : PoolAt w pl 0) (hb : w.heap[b]? = some (ints .u8 5 200 (fun _ => 0))) :
    Calls Try.prog 24 #[.pointer (some ⟨G.hb, 0, none⟩), wideV b] w fun e w' => e = .returned (.tuple #[V53 0 0, .int .i64 12]) ∧ Chg [] w w' := by
  have := hinsert_full h hp wideT (some ⟨b, 0, none⟩) 200 200 0 wideT_len wideT_ok (wide_src hb) (by kernel_rfl) (by kernel_rfl)
  exact this
theorem free_w (h : HeapAt w pl G aw2) :
    Calls Try.prog 31 #[.pointer (some ⟨G.hb, 0, none⟩), .agg #[.int .i64 0, .int .i64 0]] w fun e w' => e = .returned (.int .i64 0) ∧ HeapAt w' pl G aw3 ∧ Chg G.foot w w' := by
  have := hfree_ok h (i := 0) (s := 0) (L := [some wideT, some wideT]) (t := wideT) rfl rfl
  exact this
theorem ins_w4 (h : HeapAt w pl G aw3) (hb : w.heap[b]? = some (ints .u8 5 200 (fun _ => 0))) :
    Calls Try.prog 24 #[.pointer (some ⟨G.hb, 0, none⟩), wideV b] w fun e w' => e = .returned (.tuple #[V53 0 0, .int .i64 0]) ∧ HeapAt w' pl G aw2 ∧ Chg G.foot w w' := by
  have := hinsert_old h wideT (some ⟨b, 0, none⟩) 200 200 0 [none, some wideT] wideT_len wideT_ok (wide_src hb) (by kernel_rfl) (by kernel_rfl) rfl (of_decide_eq_true (by kernel_rfl))
  exact this
end

set_option maxRecDepth 100000 in
set_option maxHeartbeats 4000000 in
theorem awake7 (w : World) : Calls Try.prog 21 #[] w fun e w' => e = .returned (.bool true) ∧ Chg [] w w' := by
  go_enter Try.func21, Try.ntmps21
  go_wp2_with fail
  refine (newPool_any 1 _ (by omega)).mono ?_
  rintro e w1 ⟨rfl, hp1, hC1, hs1⟩
  have HP1 := Lib.hid hp1
  have HC1 := Lib.hid hC1
  clear hp1 hC1
  unfold ptrV
  go_wp2_with fail
  refine (heapNew_any w.heap.size w1).mono ?_
  rintro e w2 ⟨hb, rfl, ⟨rb, hh2, hb2, rb2⟩, hC2⟩
  have HH2 := Lib.hid hh2
  have HP2 := Lib.hid (HP1.out.chg hC2 (by simp))
  have HC2 := Lib.hid (HC1.out.trans hC2)
  clear hh2 hC2
  unfold ptrV
  have hF2 : ∀ x, x ∈ (HG.mk hb rb (.slice none 0 0) []).foot → w.heap.size < x := by
    intro x hx
    rcases mem_foot.1 hx with e | e | e | e
    · simp at e; omega
    · simp at e; omega
    · simp [Value.ownBlock] at e
    · simp at e
  go_wp2_with fail
  refine (wide_any w2).mono ?_
  rintro e w3 ⟨b1, rfl, hb1, hd1, hC3⟩
  have hs2 := HC2.out.size
  have hlt2 := HH2.out.lt
  have hpl2 := lt_of_heap HP2.out
  have i1 := ins_w1 (HH2.out.chg hC3 (by simp)) (HP2.out.chg hC3 (by simp)) hd1 (by
    intro hx
    rcases List.mem_cons.1 hx with e | e
    · omega
    · have := hlt2 b1 e; omega)
  have I1 := Lib.hid i1
  have HC3 := Lib.hid (HC2.out.trans hC3)
  have hs3 := hC3.size
  clear i1 hd1 hC3
  unfold wideV at I1
  go_wp2_with fail
  refine I1.out.mono ?_
  rintro e w4 ⟨rfl, ⟨G, hG, hh4, hf4⟩, hp4, hC4⟩
  unfold V53
  have HH4 := Lib.hid hh4
  have HP4 := Lib.hid hp4
  have HF4 := Lib.hid hf4
  have HC4 := Lib.hid hC4
  clear hh4 hp4 hf4 hC4 I1
  go_wp2_with fail
  have hG' : G.hb = hb := hG
  subst hG'
  have hlt4 := HH4.out.lt
  have hge : ∀ x, x ∈ G.foot → w.heap.size ≤ x := by
    intro x hx
    rcases HF4.out x hx with h1 | h1
    · exact Nat.le_of_lt (hF2 x h1)
    · omega
  have HGE := Lib.hid hge
  have HA4 : Hid (Chg [] w w4) := Lib.hid (HC3.out.trans' HC4.out (by
    intro x hx
    rcases List.mem_cons.1 hx with e | e
    · exact .inr (by omega)
    · exact .inr (Nat.le_of_lt (hF2 x e))))
  have hplf := HH4.out.pl_ne HP4.out
  have hT4f : w4.heap.size ∉ G.foot := fun e => by have := hlt4 _ e; omega
  have HPLF := Lib.hid hplf
  have HT4F := Lib.hid hT4f
  have HLT4 := Lib.hid hlt4
  have hs4 := HA4.out.size
  clear hF2 hlt2 hlt4 hge hplf hT4f hG hs3 hs2 hb1 rb2 hb2 HH2 HP2 HF4 HC4 HC3 HC2 HP1 HC1
  -- the second one
  refine (wide_any _).mono ?_
  rintro e w5 ⟨b2, rfl, _, hd2, hC5⟩
  have hC45 := ((Chg.refl [] w4).alloc (.cells #[.int .i64 0, .int .i64 0] 53)).trans hC5
  have ht4 := hC5.heap (heap_alloc_new w4 (.cells #[.int .i64 0, .int .i64 0] 53)) (by simp)
  have I2 := Lib.hid (ins_w2 (HH4.out.chg hC45 (by simp)) hd2)
  have HP5 := Lib.hid (HP4.out.chg hC45 (by simp))
  have HT5 := Lib.hid ht4
  have HA5 := Lib.hid (HA4.out.trans hC45)
  clear hd2 hC45 hC5 ht4
  unfold wideV at I2
  go_wp2_with fail
  refine I2.out.mono ?_
  rintro e w6 ⟨rfl, hh6, hC6⟩
  unfold V53
  have HH6 := Lib.hid hh6
  have HP6 := Lib.hid (HP5.out.chg hC6 HPLF.out)
  have HT6 := Lib.hid (HT5.out |> fun h => hC6.heap h HT4F.out)
  have HA6 : Hid (Chg [] w w6) := Lib.hid (HA5.out.trans' hC6 (fun x hx => .inr (HGE.out x hx)))
  clear hh6 hC6 I2
  go_wp2_with fail
  -- the third one: there is no room
  refine (wide_any _).mono ?_
  rintro e w7 ⟨b3, rfl, _, hd3, hC7⟩
  have hC67 := ((Chg.refl [] w6).alloc (.cells #[.int .i64 0, .int .i64 1] 53)).trans hC7
  have I3 := Lib.hid (ins_w3 (HH6.out.chg hC67 (by simp)) (HP6.out.chg hC67 (by simp)) hd3)
  have HH7 := Lib.hid (HH6.out.chg hC67 (by simp))
  have HP7 := Lib.hid (HP6.out.chg hC67 (by simp))
  have HT7 := Lib.hid (hC67.heap HT6.out (by simp))
  have HA7 := Lib.hid (HA6.out.trans hC67)
  clear hd3 hC67 hC7
  unfold wideV at I3
  go_wp2_with fail
  refine I3.out.mono ?_
  rintro e w8 ⟨rfl, hC8⟩
  unfold V53
  have hC8a := hC8.alloc (.cells #[.int .i64 0, .int .i64 0] 53)
  have HH8 := Lib.hid (HH7.out.chg hC8a (by simp))
  have HP8 := Lib.hid (HP7.out.chg hC8a (by simp))
  have ht8 := hC8a.heap HT7.out (by simp)
  have HT8 := Lib.hid ht8
  have HA8 := Lib.hid (HA7.out.trans hC8a)
  have x0 := two0 ht8
  have x1 := two1 ht8
  have I4 := Lib.hid (free_w HH8.out)
  clear hC8 hC8a I3 ht8
  go_wp2_with fail
  refine I4.out.mono ?_
  rintro e w9 ⟨rfl, hh9, hC9⟩
  have HH9 := Lib.hid hh9
  have HP9 := Lib.hid (HP8.out.chg hC9 HPLF.out)
  have HT9 := Lib.hid (hC9.heap HT8.out HT4F.out)
  have HA9 : Hid (Chg [] w w9) := Lib.hid (HA8.out.trans' hC9 (fun x hx => .inr (HGE.out x hx)))
  clear hh9 hC9 I4 x0 x1
  go_wp2_with fail
  -- the fourth one
  refine (wide_any _).mono ?_
  rintro e w10 ⟨b4, rfl, _, hd4, hC10⟩
  have I5 := Lib.hid (ins_w4 (HH9.out.chg hC10 (by simp)) hd4)
  have HP10 := Lib.hid (HP9.out.chg hC10 (by simp))
  have HT10 := Lib.hid (hC10.heap HT9.out (by simp))
  have HA10 := Lib.hid (HA9.out.trans hC10)
  clear hd4 hC10
  unfold wideV at I5
  go_wp2_with fail
  refine I5.out.mono ?_
  rintro e w11 ⟨rfl, hh11, hC11⟩
  unfold V53
  have ht11 := hC11.heap HT10.out HT4F.out
  have HP11 := Lib.hid (HP10.out.chg hC11 HPLF.out)
  have HA11 : Hid (Chg [] w w11) := Lib.hid (HA10.out.trans' hC11 (fun x hx => .inr (HGE.out x hx)))
  have x0 := two0 ht11
  have x1 := two1 ht11
  have hlt11 := lt_of_heap ht11
  clear hh11 hC11 I5 ht11
  go_wp2_with (first | (go_at_call 28; refine (left_any w.heap.size 0 _ (by exact HP11.out.chg ((Chg.refl [] w11).alloc _) (by simp))).mono ?_; rintro e w12 ⟨rfl, rfl⟩))
  go_ret
  exact ⟨rfl, HA11.out.alloc _⟩
end Go.Proofs.Yteokjaocnemmlaa
