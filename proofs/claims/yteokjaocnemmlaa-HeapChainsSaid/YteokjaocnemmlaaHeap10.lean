/-
  The walk of HeapFree, its first loop: versions of any sizes are put.
-/
import Derived.Test.YteokjaocnemmlaaHeap9
import Derived.Laws.OwnMore
import Derived.Deep.CutBlock
namespace Go.Proofs.Yteokjaocnemmlaa
open Go.RowKit

theorem wpList_mkb {w : World} {ops : Array Oper} {rest : List Oper} {o : Oper} {a : Act} {Q : Exit → Act → World → Prop} (hgd : o.guard = none) (l c : Operand)
    (hop : o.op = Op.makeSlice 57 l c) (n : Nat) (hl : a.eval l = .int .i64 n) (hc : a.eval c = .int .i64 n) (hn : n ≤ 1000)
    (h : ∀ w', Src1 w' 1 (.slice (some ⟨w.heap.size, 0, none⟩) n n) n (bvals (List.replicate n 0)) → Chg [] w w' → w.heap.size < w'.heap.size → wpList Try.prog ops Q rest (a.put o.dst (.slice (some ⟨w.heap.size, 0, none⟩) n n)) w') : wpList Try.prog ops Q (o :: rest) a w := by
  obtain ⟨i, hi, hz, hs, hb⟩ := info_parts Try.info5
  refine wpList_make_full w hgd l c 57 hop 0 5 i (.int .u8 0) 1 Try.underlying57 hi hz hs .i64 .i64 n n n hl hc rfl rfl (by rw [hb]; omega) (by unfold maxLen; omega) (Nat.zero_le _) ?_
  intro w' hown hgr
  have hown' : Own w' 5 1 (.slice (some ⟨w.heap.size, 0, none⟩) n n) n (bvals (List.replicate n 0)) := by
    have e : (madeCells (Value.int .u8 0).cells (n * 1)).toList = bvals (List.replicate n 0) := by
      rw [show (Value.int IntKind.u8 0).cells = #[.int .u8 0] from rfl, Nat.mul_one, toList_madeCells_one]
      unfold bvals
      rw [List.map_replicate]
    rw [← e]
    exact hown
  exact h w' (Src1.of_own hown' (bvals_one _)) (Chg.of_grown hgr) (hown'.lt' _ rfl)
theorem Src1.two {w : World} {e : Nat} {u v : Value} (h1 : u.oneCell' = true) (h2 : v.oneCell' = true) : Src1 (w.alloc (.cells #[u, v] e)) 2 (.slice (some ⟨w.heap.size, 0, none⟩) 1 1) 1 [u, v] := by
  refine ⟨rfl, by simp [h1, h2], .inr ⟨_, _, rfl, fun j x hx => ?_⟩⟩
  rw [Go.WideShapes.add_plain, show 0 + j = j by omega, cell_of_row _ w.heap.size j _ _ _ (heap_alloc_new w (.cells #[u, v] e))]
  simpa using hx

theorem HS.app' {w u : World} {B pl left k : Nat} {G : HG} {H : List PL} {v : Value} {ps : List (Nat × Nat)} {A : Option Addr} {c p s : Nat} (h : HS w B pl left G H v ps) (hk : ps.length = k) (hB : B ≤ w.heap.size) (a : App (w.alloc (.cells #[.int .i64 p, .int .i64 s] 53)) u 53 2 v (.slice A (k + 1) c) (k + 1) (tids ps ++ [.int .i64 p, .int .i64 s])) : HS u B pl left G H (.slice A (k + 1) c) (ps ++ [(p, s)]) := by
  subst hk
  exact h.app hB a

/-- What the law knows of the heap's pages and of its places. -/
structure FI (H : List PL) (left : Nat) (ps : List (Nat × Nat)) (T : Nat → Tup) : Prop where
  at_ : ∀ (j : Nat) (q : Nat × Nat), ps[j]? = some q → nget H q.1 q.2 = some (T j)
  inj : ∀ (i j : Nat) (q : Nat × Nat), ps[i]? = some q → ps[j]? = some q → i = j
  used : usedH H = ps.length
  len : H.length ≤ ps.length
  sum : H.length + left = 256
theorem FI.start (T : Nat → Tup) : FI [] 256 [] T := ⟨by simp, by simp, rfl, by simp, rfl⟩
theorem FI.ins {H H' : List PL} {left left' p s : Nat} {ps : List (Nat × Nat)} {T : Nat → Tup} {t : Tup} (h : FI H left ps T) (k : InsP H t left p s H' left') (ht : t = T ps.length) : FI H' left' (ps ++ [(p, s)]) T := by
  subst ht
  have old : ∀ (j : Nat) (q : Nat × Nat), ps[j]? = some q → ¬ (q.1 = p ∧ q.2 = s) := by
    intro j q hq he
    have h1 := h.at_ j q hq
    rw [he.1, he.2, k.was] at h1
    cases h1
  have key : ∀ (j : Nat) (q : Nat × Nat), (ps ++ [(p, s)])[j]? = some q → (j = ps.length ∧ q = (p, s)) ∨ (j < ps.length ∧ ps[j]? = some q) := by
    intro j q hq
    by_cases hj : j < ps.length
    · rw [List.getElem?_append_left hj] at hq
      exact .inr ⟨hj, hq⟩
    · have h1 := getElem?_lt hq
      have : j = ps.length := by simp at h1; omega
      subst this
      rw [List.getElem?_append_right (by omega)] at hq
      simp at hq
      exact .inl ⟨rfl, hq.symm⟩
  refine ⟨?_, ?_, ?_, ?_, ?_⟩
  · intro j q hq
    rw [k.get]
    rcases key j q hq with ⟨rfl, rfl⟩ | ⟨hj, hq'⟩
    · rw [if_pos ⟨rfl, rfl⟩]
    · rw [if_neg (old j q hq')]
      exact h.at_ j q hq'
  · intro i j q hi hj
    rcases key i q hi with ⟨hi1, hi2⟩ | ⟨hi', hqi⟩ <;> rcases key j q hj with ⟨hj1, hj2⟩ | ⟨hj', hqj⟩
    · omega
    · exact absurd (by rw [hi2]; exact ⟨rfl, rfl⟩) (old j q hqj)
    · exact absurd (by rw [hj2]; exact ⟨rfl, rfl⟩) (old i q hqi)
    · exact h.inj i j q hqi hqj
  · rw [k.used, h.used]; simp
  · have := k.le; have := h.len; simp; omega
  · rw [k.sum, h.sum]

def InB (w : World) (A : Option Addr) (n : Nat) (s : Nat → Nat) : Prop := 0 < n → ∃ b off, A = some ⟨b, off, none⟩ ∧ ∀ j, j < n → w.cell? ⟨b, off + j, none⟩ = some (.int .u8 (s j)) ∧ s j ≤ 255
def verT (s : Nat → Nat) (j : Nat) : Tup := ⟨j, 1, 0, -1, -1, List.replicate (s j % 201) 0⟩
theorem verT_len (s : Nat → Nat) (j : Nat) : s j % 201 = (verT s j).data.length := by simp [verT]
theorem verT_ok (s : Nat → Nat) (j : Nat) (hj : j ≤ 1000) : (verT s j).Ok := by
  refine ⟨⟨by simp [verT], by simp [verT]; omega⟩, ⟨by simp [verT], by simp [verT]⟩, ⟨by simp [verT], by simp [verT]⟩, rfl, by rw [← verT_len]; omega, ?_⟩
  intro x hx
  have : x = 0 := List.eq_of_mem_replicate hx
  omega

/-- Insert, where the pool has pages: it goes well. -/
theorem hins_hs {w : World} {B pl left : Nat} {G : HG} {H : List PL} {v : Value} {ps : List (Nat × Nat)} (hS : HS w B pl left G H v ps) (hB : B ≤ w.heap.size) (hleft : 0 < left) (h256 : H.length + left = 256) (t : Tup) (A : Option Addr) (n c : Nat) (hn : n = t.data.length) (ho : t.Ok)
    (hsd : ∀ k, (Value.slice A n c).ownBlock = some k → k ∉ pl :: G.foot) (hsrc : Src1 w 1 (.slice A n c) n (bvals t.data)) :
    Calls Try.prog 24 #[.pointer (some ⟨G.hb, 0, none⟩), .agg #[.int .u64 t.row, .int .u64 t.xmin, .int .u64 t.xmax, .int .i64 t.np, .int .i64 t.ns, .slice A n c]] w fun e w' =>
      ∃ (p s left' : Nat) (G' : HG) (H' : List PL), e = .returned (.tuple #[.agg #[.int .i64 p, .int .i64 s], .int .i64 0]) ∧ G'.hb = G.hb ∧ HS w' B pl left' G' H' v ps ∧ InsP H t left p s H' left' ∧ Chg (pl :: G.foot) w w' := by
  refine (hinsert_any hS.heap hS.pool (by omega) t A n c hn ho hsd hsrc).mono ?_
  rintro e w' ⟨code, p, s, H', left', G', rfl, hR, hG, hh, hp, hf, hC⟩
  rcases hR.cases with ⟨rfl, a, b, rfl, rfl, hI⟩ | ⟨_, _, h0, _⟩
  · exact ⟨a, b, left', G', H', rfl, hG, hS.turn hC hB hh hp hf, hI, hC⟩
  · omega
theorem hins_ver {w : World} {B pl left hb k d x b : Nat} {G : HG} {H : List PL} {v : Value} {ps : List (Nat × Nat)} {s : Nat → Nat} (hS : HS w B pl left G H v ps) (hB : B ≤ w.heap.size) (hF : FI H left ps (verT s)) (hps : ps.length = k) (hk : k < 30) (hG : G.hb = hb) (hx : x = s k) (hd : d = x % 201)
    (hsd : b ∉ pl :: G.foot) (hsrc : Src1 w 1 (.slice (some ⟨b, 0, none⟩) d d) d (bvals (List.replicate d 0))) :
    Calls Try.prog 24 #[.pointer (some ⟨hb, 0, none⟩), .agg #[.int .u64 k, .int .u64 1, .int .u64 0, .int .i64 (-1), .int .i64 (-1), .slice (some ⟨b, 0, none⟩) d d]] w fun e w' =>
      ∃ (p s' left' : Nat) (G' : HG) (H' : List PL), e = .returned (.tuple #[.agg #[.int .i64 p, .int .i64 s'], .int .i64 0]) ∧ G'.hb = hb ∧ HS w' B pl left' G' H' v ps ∧ FI H' left' (ps ++ [(p, s')]) (verT s) ∧ Chg (pl :: G.foot) w w' := by
  subst hG
  have hlen := hF.len
  have hsum := hF.sum
  have hdl : d = (verT s k).data.length := by rw [hd, hx]; exact verT_len s k
  have := hins_hs hS hB (by omega) hsum (verT s k) (some ⟨b, 0, none⟩) d d hdl (verT_ok s k (by omega)) (by intro j hj; injection hj with hj; subst hj; exact hsd) (by
    have e : (verT s k).data = List.replicate d 0 := by unfold verT; rw [hd, hx]
    rw [e]; exact hsrc)
  refine this.mono ?_
  rintro e w' ⟨p, s', left', G', H', he, hG', hS', hI, hC⟩
  exact ⟨p, s', left', G', H', he, hG', hS', hF.ins hI (by rw [hps]), hC⟩

theorem hfree_hs {w : World} {B pl left hb : Nat} {G : HG} {H : List PL} {v : Value} {ps : List (Nat × Nat)} {q : Nat × Nat} {t : Tup} (hS : HS w B pl left G H v ps) (hB : B ≤ w.heap.size) (hG : G.hb = hb) (hq : nget H q.1 q.2 = some t) :
    Calls Try.prog 31 #[.pointer (some ⟨hb, 0, none⟩), .agg #[.int .i64 q.1, .int .i64 q.2]] w fun e w' => e = .returned (.int .i64 0) ∧ (∃ H', HS w' B pl left G H' v ps ∧ (∀ a b, nget H' a b = if a = q.1 ∧ b = q.2 then none else nget H a b) ∧ usedH H' + 1 = usedH H ∧ H'.length = H.length) ∧ Chg G.foot w w' := by
  subst hG
  obtain ⟨L, hL, hs, hget, hused⟩ := rem_get hq
  refine (hfree_ok hS.heap hL hs).mono ?_
  rintro e w' ⟨rfl, hh, hC⟩
  exact ⟨rfl, ⟨_, hS.turn (hC.mono (fun x hx => List.mem_cons_of_mem _ hx)) hB hh (hS.pool.chg hC (hS.heap.pl_ne hS.pool)) (fun x hx => .inl hx), hget, hused, by simp⟩, hC⟩
theorem hfree_gone {w : World} {B pl left hb : Nat} {G : HG} {H : List PL} {v : Value} {ps : List (Nat × Nat)} {q : Nat × Nat} (hS : HS w B pl left G H v ps) (hG : G.hb = hb) (hq : nget H q.1 q.2 = none) :
    Calls Try.prog 31 #[.pointer (some ⟨hb, 0, none⟩), .agg #[.int .i64 q.1, .int .i64 q.2]] w fun e w' => e = .returned (.int .i64 15) ∧ Chg [] w w' := by
  subst hG
  exact hfree_no hS.heap (by rw [hget_nat]; exact hq)
theorem HS.place' {w : World} {B pl left k : Nat} {G : HG} {H : List PL} {A : Option Addr} {cp : Nat} {ps : List (Nat × Nat)} {g i : Nat} {q : Nat × Nat} (h : HS w B pl left G H (.slice (some ⟨g, 0, none⟩) k cp) ps) (_ : A = A) (hi : ps[i]? = some q) : w.cell? ⟨g, i * 2, none⟩ = some (.int .i64 q.1) ∧ w.cell? ⟨g, i * 2 + 1, none⟩ = some (.int .i64 q.2) := by
  obtain ⟨g', c', he, h1, h2⟩ := h.place hi
  injection he with he
  injection he with he
  injection he with he
  subst he
  rw [Nat.mul_comm]
  exact ⟨h1, h2⟩

set_option maxRecDepth 100000 in
set_option maxHeartbeats 8000000 in
theorem hfree_law (A : Option Addr) (n cap : Nat) (kk : Nat) (s : Nat → Nat) (w : World) (hin : InB w A n s) (hk255 : kk ≤ 255) :
    Calls Try.prog 11 #[.slice A n cap, .int .u8 kk] w fun e w' => e = .returned (.bool true) ∧ Below w.heap.size w w' := by
  have HIN := Lib.hid hin
  clear hin
  go_enter Try.func11, Try.ntmps11
  go_wp2_with fail
  refine (awake7 _).mono ?_
  rintro e w1 ⟨rfl, hC1⟩
  have HC1 := Lib.hid hC1
  have hs1 := hC1.size
  clear hC1
  go_wp2_with fail
  refine (newPool_any 256 _ (by omega)).mono ?_
  rintro e w2 ⟨rfl, hp2, hC2, hs2⟩
  have HP2 := Lib.hid hp2
  have HC2 := Lib.hid (HC1.out.trans hC2)
  clear hp2 hC2
  unfold ptrV
  go_wp2_with fail
  refine (heapNew_any w1.heap.size w2).mono ?_
  rintro e w3 ⟨hb, rfl, ⟨rb, hh3, hb3, rb3⟩, hC3⟩
  have HS3 : Hid (HS w3 w.heap.size w1.heap.size 256 ⟨hb, rb, .slice none 0 0, []⟩ [] (.slice none 0 0) []) := Lib.hid (by
    refine ⟨hh3, HP2.out.chg hC3 (by simp), ⟨rfl, .inl ⟨rfl, rfl⟩⟩, hs1, ?_, by simp [Value.ownBlock]⟩
    intro x hx
    rcases mem_foot.1 hx with e | e | e | e
    · simp at e; omega
    · simp at e; omega
    · simp [Value.ownBlock] at e
    · simp at e)
  have HB3 : Hid (Below w.heap.size w w3) := Lib.hid ((HC2.out.trans hC3).below (Nat.le_refl _) (by simp))
  clear hh3 hC3 HP2 HC2 HC1
  unfold ptrV
  obtain ⟨pl, hpl⟩ : ∃ pl, pl = w1.heap.size := ⟨_, rfl⟩
  rw [← hpl] at HS3 ⊢
  clear hpl hs2 hb3 rb3
  have HF3 := Lib.hid (FI.start (verT s))
  have hw1s := HB3.out.size
  go_upto_block 0 with fail
  go_cut [8] (fun s8 wx => ∃ (k left : Nat) (G : HG) (H : List PL) (ps : List (Nat × Nat)), k ≤ 30 ∧ ps.length = k ∧ G.hb = hb ∧ HS wx w.heap.size pl left G H s8 ps ∧ FI H left ps (verT s) ∧ Below w.heap.size w wx)
  case first =>
   go_wp2_with fail
   go_loopw [8, 28] (fun v i wr => ∃ (k left : Nat) (G : HG) (H : List PL) (ps : List (Nat × Nat)), i = .int .i64 k ∧ k ≤ n ∧ k ≤ 30 ∧ ps.length = k ∧ G.hb = hb ∧ HS wr w.heap.size pl left G H v ps ∧ FI H left ps (verT s) ∧ Below w.heap.size w wr) (fun _ i _ => n - (intOf i).toNat)
   case atStart => exact ⟨0, 256, _, [], [], rfl, by omega, by omega, rfl, rfl, HS3.out, HF3.out, HB3.out⟩
   case round =>
     obtain ⟨k, left, G, H, ps, rfl, hk, hk30, hps, hG, hS, hF, hBr⟩ := hrel
     have HSR := Lib.hid hS
     have HFR := Lib.hid hF
     have HBR := Lib.hid hBr
     have HPS := Lib.hid hps
     have HGB := Lib.hid hG
     clear hS hF hBr hps hG HS3 HF3 HB3
     by_cases hlt : k < n
     · by_cases h30 : k < 30
       · obtain ⟨g, off, rfl, hcz⟩ := HIN.out (by omega)
         obtain ⟨c1, hs255⟩ := hcz k (by omega)
         have g1 := (HBR.out.cell (World.block_lt_of_cell? _ _ c1)).trans c1
         obtain ⟨x, hx⟩ : ∃ x, x = s k := ⟨_, rfl⟩
         obtain ⟨d, hd⟩ : ∃ d, d = x % 201 := ⟨_, rfl⟩
         rw [← hx] at g1 hs255
         have hd201 : d ≤ 200 := by omega
         have d3 : decide ((30 : Int) ≤ k) = false := by simp; omega
         have d4 : decide (30 ≤ k) = false := by simp; omega
         have r1 : Int.tmod (x : Int) 201 = (d : Int) := by rw [hd]; rfl
         have r2 : (x : Int) % 201 = (d : Int) := by omega
         have w1' : IntKind.i64.wrap (d : Int) = (d : Int) := IntWalk.i64_in _ (by omega)
         have w2' : IntKind.i64.wrap (x : Int) = (x : Int) := IntWalk.i64_in _ (by omega)
         have w3' : IntKind.u64.wrap (k : Int) = (k : Int) := IntWalk.u64_in _ (by omega)
         have HD := Lib.hid hd
         have HX := Lib.hid hx
         obtain ⟨A0, cp0, hv0⟩ := HSR.out.row.form'
         rw [HPS.out] at hv0
         subst hv0
         clear hcz c1 hx hd
         go_wp2_with (first | (refine wpList_mkb rfl (.tmp 42) (.tmp 42) rfl d rfl rfl (by omega) ?_; intro w4 hsrc hC4 hs4; have HSRC := Lib.hid hsrc; have HC4 := Lib.hid hC4; clear hsrc hC4))
         have hs4' := HC4.out.size
         have hSR4 := HSR.out.still HC4.out
         have hlt4 := HSR.out.heap.lt
         have hpl4 := lt_of_heap HSR.out.pool
         have hwr := HBR.out.size
         have I := Lib.hid (hins_ver (b := wr.heap.size) hSR4 (by omega) HFR.out HPS.out h30 HGB.out HX.out HD.out (by
           intro hx
           rcases List.mem_cons.1 hx with e | e
           · omega
           · have := hlt4 _ e; omega) HSRC.out)
         have HSR4 := Lib.hid hSR4
         clear hSR4 hlt4
         refine I.out.mono ?_
         rintro e w5 ⟨p, s', left', G', H', rfl, hG', hS5, hF5, hC5⟩
         have HS5 := Lib.hid hS5
         have HF5 := Lib.hid hF5
         have HG5 := Lib.hid hG'
         have HB5 : Hid (Below w.heap.size w w5) := Lib.hid ((HBR.out.trans (HC4.out.below hwr (by simp))).trans (hC5.below (by omega) HSR4.out.below))
         clear hG' hS5 hF5 hC5 I
         have hS5a : HS (w5.alloc (.cells #[.int .i64 p, .int .i64 s'] 53)) w.heap.size pl left' G' H' (.slice A0 k cp0) ps := HS5.out.still ((Chg.refl [] w5).alloc _)
         have hown := hS5a.row
         rw [HPS.out] at hown
         have hsrc2 := Src1.two (w := w5.alloc (.cells #[.int .i64 p, .int .i64 s'] 53)) (e := 53) (u := .int .i64 p) (v := .int .i64 s') rfl rfl
         rw [show (w5.alloc (.cells #[.int .i64 p, .int .i64 s'] 53)).heap.size = w5.heap.size + 1 by simp] at hsrc2
         have HOWN := Lib.hid (Own.alloc hown (.cells #[.int .i64 p, .int .i64 s'] 53))
         have HSRC2 := Lib.hid hsrc2
         have HS5A := Lib.hid hS5a
         clear hS5a hown hsrc2
         go_wp2_with (at_builtin; refine wpList_app rfl (.tmp 50) (.tmp 52) 51 rfl 53 2 16 El51 (.slice A0 k cp0) k (tids ps) rfl HOWN.out (.slice (some ⟨w5.heap.size + 1, 0, none⟩) 1 1) 1 [.int .i64 p, .int .i64 s'] rfl HSRC2.out (k + 1) (tids ps ++ [.int .i64 p, .int .i64 s']) rfl rfl (by unfold maxLen; omega) (by omega) ?_; intro A6 c6 w6 a6; have HA6 := Lib.hid a6; clear a6)
         go_roundw
         case measure => simp [intOf]; omega
         case rel =>
           have a6 := HA6.out
           have hB5 := HB5.out.size
           refine ⟨k + 1, left', G', H', ps ++ [(p, s')], by go_num, by omega, by omega, by simp [HPS.out], HG5.out, ?_, HF5.out, ?_⟩
           · have hh := HS5A.out
             exact hh.app' HPS.out (by simp; omega) a6
           · refine ((HB5.out.alloc hB5 _).alloc (by simp; omega) _).trans (a6.chg.below (by simp; omega) ?_)
             intro y hy
             rw [Option.mem_toList] at hy
             exact HS5.out.ger y hy
       · obtain ⟨g, off, rfl, hcz⟩ := HIN.out (by omega)
         obtain ⟨c1, hs255⟩ := hcz k (by omega)
         have g1 := (HBR.out.cell (World.block_lt_of_cell? _ _ c1)).trans c1
         have d3 : decide ((30 : Int) ≤ k) = true := by simp; omega
         have d4 : decide (30 ≤ k) = true := by simp; omega
         clear hcz c1 hs255
         go_wp2_with fail
         go_meet
         exact ⟨k, left, G, H, ps, hk30, HPS.out, HGB.out, HSR.out, HFR.out, HBR.out⟩
     · go_wp2_with fail
       go_meet
       exact ⟨k, left, G, H, ps, hk30, HPS.out, HGB.out, HSR.out, HFR.out, HBR.out⟩
  case rest =>
    obtain ⟨k, left, G, H, ps, hk30, hps, hG, hS, hF, hB⟩ := hcut
    have HSR := Lib.hid hS
    have HFR := Lib.hid hF
    have HBR := Lib.hid hB
    have HPS := Lib.hid hps
    have HGB := Lib.hid hG
    obtain ⟨A0, cp0, hv0⟩ := hS.row.form'
    rw [hps] at hv0
    subst hv0
    clear hS hF hB hps hG HS3 HF3 HB3 HIN
    by_cases hk0 : k = 0
    · have hu : usedH H = 0 := by rw [HFR.out.used, HPS.out, hk0]
      have husd := used_heap HSR.out.heap
      rw [hu, HGB.out] at husd
      have HUS := Lib.hid husd
      subst hk0
      clear husd hu
      go_wp2_with (first | (go_at_call 41; refine HUS.out.mono ?_; rintro e w4 ⟨rfl, n4, rfl⟩))
      go_ret
      exact ⟨rfl, ⟨HBR.out.os, HBR.out.tape, HBR.out.output, HBR.out.size, HBR.out.block⟩⟩
    · obtain ⟨gd, hgd⟩ : ∃ gd, gd = kk % k := ⟨_, rfl⟩
      have hgdk : gd < k := by rw [hgd]; exact Nat.mod_lt _ (by omega)
      obtain ⟨q, hq⟩ : ∃ q, ps[gd]? = some q := ⟨_, List.getElem?_eq_getElem (by rw [HPS.out]; exact hgdk)⟩
      obtain ⟨g, c0, hv, _⟩ := HSR.out.place hq
      rw [HPS.out] at hv
      injection hv with hv1 hv2 hv3
      subst hv1
      obtain ⟨e1, e2⟩ := HSR.out.place' (A := none) rfl hq
      have r1 : Int.tmod (kk : Int) (k : Int) = (gd : Int) := by rw [hgd]; rfl
      have w1' : IntKind.i64.wrap (gd : Int) = (gd : Int) := IntWalk.i64_in _ (by omega)
      have w2' : IntKind.i64.wrap (kk : Int) = (kk : Int) := IntWalk.i64_in _ (by omega)
      have k0 : ((k : Int) == 0) = false := by simp; omega
      have k1 : (k == 0) = false := by simp; omega
      have hgdi : (gd : Int) < (k : Int) := by omega
      have hbw := HBR.out.size
      have IF := Lib.hid (hfree_hs HSR.out hbw HGB.out (HFR.out.at_ gd q hq))
      have HQ := Lib.hid hq
      clear hq hgd hv2 hv3
      go_wp2_with fail
      refine IF.out.mono ?_
      rintro e w4 ⟨rfl, ⟨H', hS4, hget, hused, hlen⟩, hC4⟩
      obtain ⟨x1, x2⟩ := hS4.place' (A := none) rfl HQ.out
      have IG := Lib.hid (hfree_gone hS4 HGB.out (by rw [hget, if_pos ⟨rfl, rfl⟩]))
      have HS4 := Lib.hid hS4
      have HGET := Lib.hid hget
      have hu1 : usedH H' + 1 = k := by rw [hused, HFR.out.used, HPS.out]
      have HB4 : Hid (Below w.heap.size w w4) := Lib.hid (HBR.out.trans (hC4.below hbw HSR.out.gef))
      clear hS4 hget hused hlen hC4 IF e1 e2
      go_wp2_with fail
      refine IG.out.mono ?_
      rintro e w5 ⟨rfl, hC5⟩
      have HS5 := Lib.hid (HS4.out.still hC5)
      have HB5 : Hid (Below w.heap.size w w5) := Lib.hid (HB4.out.trans (hC5.below HB4.out.size (by simp)))
      clear hC5 IG x1 x2
      go_wp2_with fail
      go_loopw [84] (fun i wr => ∃ j : Nat, i = .int .i64 j ∧ j ≤ k ∧ HS wr w.heap.size pl left G H' (.slice (some ⟨g, 0, none⟩) k cp0) ps ∧ Below w.heap.size w wr) (fun i _ => k - (intOf i).toNat)
      case atStart => exact ⟨0, rfl, by omega, HS5.out, HB5.out⟩
      case round =>
        obtain ⟨j, rfl, hj, hSj, hBj⟩ := hrel
        have HSJ := Lib.hid hSj
        have HBJ := Lib.hid hBj
        clear hSj hBj HS5 HB5 HS4 HB4
        by_cases hlt : j < k
        · obtain ⟨r, hr⟩ : ∃ r, ps[j]? = some r := ⟨_, List.getElem?_eq_getElem (by rw [HPS.out]; exact hlt)⟩
          obtain ⟨y1, y2⟩ := HSJ.out.place' (A := none) rfl hr
          have hji : (j : Int) < (k : Int) := by omega
          by_cases hjg : j = gd
          · subst hjg
            have hn : nget H' r.1 r.2 = none := by
              have := HQ.out
              rw [hr] at this
              injection this with this
              subst this
              rw [HGET.out, if_pos ⟨rfl, rfl⟩]
            have IN := Lib.hid (fun o => hget_no (HSJ.out.still ((Chg.refl [] wr).alloc o)).heap (p := r.1) (s := r.2) (by rw [hget_nat]; exact hn))
            rw [HGB.out] at IN
            clear hn hr
            go_wp2_with fail
            refine (IN.out _).mono ?_
            rintro e w6 ⟨rfl, hC6⟩
            unfold zeroTup
            have hC7 := ((Chg.refl [] wr).alloc (.cells #[.int .i64 r.1, .int .i64 r.2] 53)).trans hC6
            have HS6 := Lib.hid (HSJ.out.still hC7)
            have HB6 : Hid (Below w.heap.size w w6) := Lib.hid (HBJ.out.trans (hC7.below HBJ.out.size (by simp)))
            clear hC6 hC7 y1 y2
            go_wp2_with fail
            go_roundw
            case measure => simp [intOf]; omega
            case rel => exact ⟨j + 1, by go_num, by omega, HS6.out.still ((Chg.refl [] w6).alloc _), HB6.out.alloc HB6.out.size _⟩
          · have hv : nget H' r.1 r.2 = some (verT s j) := by
              rw [HGET.out, if_neg, HFR.out.at_ j r hr]
              intro he
              exact hjg (HFR.out.inj j gd r hr (by rw [HQ.out]; congr 1; exact Prod.ext he.1.symm he.2.symm))
            obtain ⟨L, hL, hsl⟩ : ∃ L, H'[r.1]? = some L ∧ L[r.2]? = some (some (verT s j)) := by
              unfold nget at hv
              cases hL : H'[r.1]? with
              | none => rw [hL] at hv; cases hv
              | some L => rw [hL] at hv; exact ⟨L, rfl, sget_some.1 hv⟩
            have IN := Lib.hid (fun o => hget_ok (HSJ.out.still ((Chg.refl [] wr).alloc o)).heap hL hsl)
            rw [HGB.out] at IN
            have j1 : ((j : Int) == (gd : Int)) = false := by simp; omega
            have j2 : ((j : Int) != (gd : Int)) = true := by simp; omega
            have j3 : (j == gd) = false := by simp; omega
            have j4 : (j != gd) = true := by simp; omega
            have w3' : IntKind.u64.wrap (j : Int) = (j : Int) := IntWalk.u64_in _ (by omega)
            clear hv hL hsl hr
            go_wp2_with fail
            refine (IN.out _).mono ?_
            rintro e w6 ⟨A6, c6, rfl, hcl⟩
            have hC6 := hcl.2.1
            unfold Tup.val verT
            have hC7 := ((Chg.refl [] wr).alloc (.cells #[.int .i64 r.1, .int .i64 r.2] 53)).trans hC6
            have HS6 := Lib.hid (HSJ.out.still hC7)
            have HB6 : Hid (Below w.heap.size w w6) := Lib.hid (HBJ.out.trans (hC7.below HBJ.out.size (by simp)))
            clear hC6 hC7 hcl y1 y2
            go_wp2_with fail
            go_roundw
            case measure => simp [intOf]; omega
            case rel => exact ⟨j + 1, by go_num, by omega, HS6.out.still ((Chg.refl [] w6).alloc _), HB6.out.alloc HB6.out.size _⟩
        · have hke : j = k := by omega
          have husd := used_heap HSJ.out.heap
          obtain ⟨u, hu⟩ : ∃ u, u = usedH H' := ⟨_, rfl⟩
          rw [← hu, HGB.out] at husd
          have HUS := Lib.hid husd
          have huk : (k : Int) - 1 = (u : Int) := by omega
          have w3' : IntKind.i64.wrap (u : Int) = (u : Int) := IntWalk.i64_in _ (by omega)
          clear husd hu hu1
          go_wp2_with (first | (go_at_call 41; refine HUS.out.mono ?_; rintro e w6 ⟨rfl, n6, rfl⟩))
          go_ret
          refine ⟨?_, ⟨HBJ.out.os, HBJ.out.tape, HBJ.out.output, HBJ.out.size, HBJ.out.block⟩⟩
          simp
end Go.Proofs.Yteokjaocnemmlaa
