/-
  The walk of the reference's Sort: it has the rows in order, too.
-/
import Derived.Test.YtkdhhafoohnlnaaSrt4
import Derived.Test.YtkdhhafoohnlnaaSymR
namespace Go.Proofs.Ytkdhhafoohnlnaa
open Go.RowKit

section
variable {P : Program}
theorem step_app0 {w : World} {ops : Array Oper} {o : Oper} {a : Act} {K : Act → World → Prop} {Q : Exit → Act → World → Prop} {E : Prop} (hgd : o.guard = none) (s x : Operand) (t : TypeId)
    (ho : o.op = .call { callee := .builtin .append, args := #[s, x], argTypes := #[t, t] }) (e size bytes : Nat) (hT : ElTy P t e size bytes)
    (v : Value) (n : Nat) (xs : List Value) (hs : a.eval s = v) (hown : Own w e size v n xs)
    (vx : Value) (m : Nat) (news : List Value) (hx : a.eval x = vx) (hsrc : Src1 w size vx m news) (N : Nat) (XS : List Value) (hN : n + m = N) (hXS : xs ++ news = XS) (h63 : N ≤ maxLen) (hbytes : N * bytes ≤ 140737488355328)
    (h : ∀ A' c' w', App w w' e size v (.slice A' N c') N XS → K (a.put o.dst (.slice A' N c')) w') : if Region.wanted o (yielded ops a.tmps) = true then Oper.wp P o a w K Q else E := by
  have hw : Region.wanted o (yielded ops a.tmps) = true := by simp [Region.wanted, hgd]
  rw [if_pos hw]
  obtain ⟨i, z, ht, hi, hz, hsz, hby, hzs, h0⟩ := hT
  obtain ⟨hl, h1, hsrc⟩ := hsrc
  subst hN; subst hXS
  rcases hsrc with ⟨rfl, rfl⟩ | ⟨ad, c, rfl, hc⟩
  · have : news = [] := List.eq_nil_of_length_eq_zero (by simpa using hl)
    subst this
    obtain ⟨A, c, rfl⟩ := hown.form'
    have hrun := run_append_owned_none (P := P) (w := w) 0 t o.type e i size ht hi _ n xs hown
    unfold Oper.wp
    simp [execOp, ho, resolve, invoke, builtin, hs, hx, hrun, Result.andThen]
    exact h A c w ⟨by simpa using hown, Chg.refl _ _, fun k hk => .inl hk⟩
  · obtain ⟨v', w', hr, h2, h3, _, h5⟩ := run_append_own_at (P := P) w 0 t o.type e i z size bytes ht hi hz hsz hby hzs h0 v n xs hown ad m c news hl hc h1 h63 hbytes (Nat.zero_le _)
    unfold Oper.wp execOp
    simp only [ho, resolve, invoke, builtin, Sem.run_bind, Sem.run_pure, Result.andThen_ok, List.map_toArray, List.map_cons, List.map_nil, hs, hx, hr]
    obtain ⟨A', c', rfl⟩ := (show Own w' e size v' (n + m) (xs ++ news) from h2).form'
    refine h A' c' w' ⟨h2, Chg.of_grown h3, ?_⟩
    intro k hk
    rcases h5 with h5 | h5
    · exact .inl (h5 ▸ hk)
    · rw [h5] at hk
      injection hk with hk
      exact .inr (by omega)
end

section
variable {K : List (List Vl)} {d : List Bool} {c : Nat}
/-- One more row is put behind all that it isn't ahead of. -/
theorem ins_ref (he : Even K c) {l : List Nat} {i t : Nat} (hp : l.Perm (List.range i)) (hs : l.Pairwise (TT K d)) (hi : i < K.length) (h1 : ∀ x, x ∈ l.drop t → ltI K d i x = true) (h2 : t = 0 ∨ ∃ x, l[t - 1]? = some x ∧ ltI K d i x = false) :
    (l.take t ++ i :: l.drop t).Perm (List.range (i + 1)) ∧ (l.take t ++ i :: l.drop t).Pairwise (TT K d) := by
  have hlt : ∀ x, x ∈ l → x < i := fun x hx => List.mem_range.1 (hp.mem_iff.1 hx)
  constructor
  · refine List.perm_middle.trans ?_
    rw [List.take_append_drop, List.range_succ]
    exact (hp.cons i).trans (List.perm_append_singleton i (List.range i)).symm
  · refine put_sorted (by rw [List.take_append_drop]; exact hs) ?_ (fun y hy => (TT.cross (hlt y (List.mem_of_mem_drop hy))).1.2 (h1 y hy))
    intro y hy
    rcases h2 with rfl | ⟨x, hx, hf⟩
    · simp at hy
    · have hxl := hlt x (List.mem_of_getElem? hx)
      have hxi : TT K d x i := (TT.cross hxl).2 hf
      obtain ⟨q, hq⟩ := List.getElem?_of_mem hy
      have hqt : q < t := by
        have := getElem?_lt hq
        rw [List.length_take] at this
        omega
      have hq' : l[q]? = some y := by
        rw [List.getElem?_take] at hq
        rw [if_pos hqt] at hq
        exact hq
      by_cases e : q = t - 1
      · subst e
        rw [hx] at hq'
        injection hq' with hq'
        rw [← hq']
        exact hxi
      · have hyl := hlt y (List.mem_of_getElem? hq')
        exact TT.trans he (by omega) (by omega) hi (pair_at hs (by omega) hq' hx) hxi
end

theorem rless_at {w : World} {vK vD : Value} {K : List (List Vl)} {d : List Bool} (hK : KeysAt w vK K) (hD : BoolAt w vD d) (hlen : ∀ r, r ∈ K → r.length ≤ 1000) {i j : Nat} (hi : i < K.length) (hj : j < K.length) :
    ∃ b off c u v, vK = .slice (some ⟨b, off, none⟩) K.length c ∧ w.cell? ⟨b, off + i, none⟩ = some u ∧ w.cell? ⟨b, off + j, none⟩ = some v ∧
      (∀ w0, Chg [] w w0 → Calls Try.prog 18 #[u, v, vD] w0 fun e w' => e = .returned (.bool (ltI K d i j)) ∧ Chg [] w0 w') := by
  obtain ⟨r, hr⟩ : ∃ r, K[i]? = some r := ⟨_, List.getElem?_eq_getElem hi⟩
  obtain ⟨s, hs⟩ : ∃ s, K[j]? = some s := ⟨_, List.getElem?_eq_getElem hj⟩
  obtain ⟨b, off, c, u, rfl, hu, hru⟩ := hK.cell hr
  obtain ⟨b', off', c', v, he, hv, hrv⟩ := hK.cell hs
  injection he with he1 he2 he3
  injection he1 with he1
  injection he1 with e1 e2
  subst e1 e2
  have ei : K.getD i [] = r := by rw [List.getD_eq_getElem?_getD, hr]; rfl
  have ej : K.getD j [] = s := by rw [List.getD_eq_getElem?_getD, hs]; rfl
  refine ⟨b, off, c, u, v, rfl, hu, hv, fun w0 hC => ?_⟩
  unfold ltI
  rw [ei, ej]
  exact rLess_any u v vD r s d w0 (hru.chg hC) (hrv.chg hC) (hD.chg hC) (hlen r (List.mem_of_getElem? hr))
theorem Src1.far {w w' : World} {S : List Nat} {size m : Nat} {vx : Value} {news : List Value} (h : Src1 w size vx m news) (hC : Chg S w w') (hS : ∀ x, x ∈ S → w.heap.size ≤ x) : Src1 w' size vx m news := by
  refine ⟨h.1, h.2.1, ?_⟩
  rcases h.2.2 with h | ⟨ad, c', h, h2⟩
  · exact .inl h
  · refine .inr ⟨ad, c', h, fun j u hu => ?_⟩
    have h3 := h2 j u hu
    have h4 := World.block_lt_of_cell? _ _ h3
    exact hC.cell h3 (fun hm => by have := hS _ hm; omega)
theorem own_new (X : World) (G : Nat) (hG : X.heap.size = G) : Own (X.alloc (.cells #[] 3)) 3 1 (.slice (some ⟨G, 0, none⟩) 0 0) 0 [] := by
  subst hG
  exact World.ownsRow_lit X #[] 0 (Nat.zero_le _) (by decide) rfl
theorem Src1.takeN {w : World} {g n cp c t : Nat} {l : List Nat} (h : Own w 3 1 (.slice (some ⟨g, 0, none⟩) n cp) n (nats l)) (hn : l.length = n) (ht : t ≤ n) : Src1 w 1 (.slice (some ⟨g, 0, none⟩) t c) t (nats (l.take t)) := by
  refine ⟨by simp [nats]; omega, nats_one _, .inr ⟨_, c, rfl, fun j u hu => ?_⟩⟩
  refine h.cells rfl j u ?_
  unfold nats at hu ⊢
  rw [List.getElem?_map, List.getElem?_take] at hu
  split at hu
  · rw [List.getElem?_map]; exact hu
  · cases hu
theorem Src1.dropN {w : World} {g n cp c t : Nat} {l : List Nat} (h : Own w 3 1 (.slice (some ⟨g, 0, none⟩) n cp) n (nats l)) (hn : l.length = n) (ht : t ≤ n) : Src1 w 1 (.slice (some ⟨g, t, none⟩) (n - t) c) (n - t) (nats (l.drop t)) := by
  refine ⟨by simp [nats]; omega, nats_one _, .inr ⟨_, c, rfl, fun j u hu => ?_⟩⟩
  have := h.cells rfl (t + j) u (by
    unfold nats at hu ⊢
    rw [List.getElem?_map, List.getElem?_drop] at hu
    rw [List.getElem?_map]
    exact hu)
  rw [Go.WideShapes.add_plain] at this ⊢
  simpa using this
/-- A row that grows in blocks that are new since wc. -/
structure Gr (wc : World) (v : Value) (n : Nat) (xs : List Value) (w' : World) : Prop where
  own : Own w' 3 1 v n xs
  chg : Chg [] wc w'
  new : ∀ k, v.ownBlock = some k → wc.heap.size ≤ k
section
variable {wc w w' : World} {v v' : Value} {n N : Nat} {xs XS : List Value}
theorem Gr.start (hC : Chg [] wc w) {G : Nat} (hG : w.heap.size = G) : Gr wc (.slice (some ⟨G, 0, none⟩) 0 0) 0 [] (w.alloc (.cells #[] 3)) :=
  ⟨own_new w G hG, hC.alloc _, fun k hk => by have hk' : G = k := (by simpa [Value.ownBlock] using hk); have := hC.size; omega⟩
theorem Gr.alloc (h : Gr wc v n xs w) (o : Obj) : Gr wc v n xs (w.alloc o) := ⟨h.own.alloc o, h.chg.alloc o, h.new⟩
theorem Gr.still (h : Gr wc v n xs w) (hC : Chg [] w w') : Gr wc v n xs w' := ⟨h.own.chg hC (by simp), h.chg.trans hC, h.new⟩
theorem Gr.app (h : Gr wc v n xs w) (a : App w w' 3 1 v v' N XS) : Gr wc v' N XS w' := by
  refine ⟨a.own, h.chg.trans' a.chg (fun x hx => .inr (h.new x (by rwa [Option.mem_toList] at hx))), fun k hk => ?_⟩
  rcases a.at_ k hk with e | e
  · exact h.new k e
  · have := h.chg.size; omega
end
section
variable {wc w : World} {ops : Array Oper} {o : Oper} {a : Act} {K : Act → World → Prop} {Q : Exit → Act → World → Prop} {E : Prop}
theorem step_gr (hgd : o.guard = none) (s x : Operand) (ho : o.op = .call { callee := .builtin .append, args := #[s, x], argTypes := #[28, 28] })
    (v : Value) (n : Nat) (xs : List Value) (hs : a.eval s = v) (hg : Gr wc v n xs w)
    (vx : Value) (m : Nat) (news : List Value) (hx : a.eval x = vx) (hsrc : Src1 w 1 vx m news) (N : Nat) (XS : List Value) (hN : n + m = N) (hXS : xs ++ news = XS) (hN2 : N ≤ 1000000)
    (h : ∀ A' c' w', Gr wc (.slice A' N c') N XS w' → Chg v.ownBlock.toList w w' → K (a.put o.dst (.slice A' N c')) w') : if Region.wanted o (yielded ops a.tmps) = true then Oper.wp Try.prog o a w K Q else E :=
  step_app0 hgd s x 28 ho 3 1 8 El28 v n xs hs hg.own vx m news hx hsrc N XS hN hXS (by unfold maxLen; omega) (by omega) (fun A' c' w' ha => h A' c' w' (hg.app ha) ha.chg)
theorem step_gr_old (hgd : o.guard = none) (s x : Operand) (ho : o.op = .call { callee := .builtin .append, args := #[s, x], argTypes := #[28, 28] })
    (v : Value) (n : Nat) (xs : List Value) (hs : a.eval s = v) (hg : Gr wc v n xs w)
    (vx : Value) (m : Nat) (news : List Value) (hx : a.eval x = vx) (hsrc : Src1 wc 1 vx m news) (N : Nat) (XS : List Value) (hN : n + m = N) (hXS : xs ++ news = XS) (hN2 : N ≤ 1000000)
    (h : ∀ A' c' w', Gr wc (.slice A' N c') N XS w' → Chg v.ownBlock.toList w w' → K (a.put o.dst (.slice A' N c')) w') : if Region.wanted o (yielded ops a.tmps) = true then Oper.wp Try.prog o a w K Q else E :=
  step_gr hgd s x ho v n xs hs hg vx m news hx (hsrc.far hg.chg (by simp)) N XS hN hXS hN2 h
end
theorem src_one {w w' X : World} {S : List Nat} {u : Value} {G : Nat} (h1 : u.oneCell' = true) (hC : Chg [] (X.alloc (.cells #[u] 3)) w) (hC2 : Chg S w w') (hX : X.heap.size = G) (hG : G ∉ S) : Src1 w' 1 (.slice (some ⟨G, 0, none⟩) 1 1) 1 [u] := by
  subst hX
  refine ⟨rfl, by simpa using h1, .inr ⟨_, 1, rfl, fun j u' hu => ?_⟩⟩
  have hj : j = 0 := by have := getElem?_lt hu; simp at this; omega
  subst hj
  injection hu with hu
  subst hu
  exact hC2.cell (hC.cell (cell_one_new X u 3 0 u rfl) (by simp)) hG
theorem Src1.dropN' {w : World} {g n cp c t : Nat} {l : List Nat} (h : Own w 3 1 (.slice (some ⟨g, 0, none⟩) n cp) n (nats l)) (hn : l.length = n) (ht : t ≤ n) : Src1 w 1 (.slice (if cp = t then some ⟨g, 0, none⟩ else some ⟨g, t, none⟩) (n - t) c) (n - t) (nats (l.drop t)) := by
  by_cases hc : cp = t
  · rw [if_pos hc]
    have hcap : n ≤ cp := by
      rcases h.2 with ⟨he, _⟩ | ⟨g', cap, cur, he, _, _, h1, _⟩
      · cases he
      · injection he with _ _ he; omega
    have hnt : n - t = 0 := by omega
    rw [List.drop_of_length_le (by omega), hnt]
    exact ⟨rfl, by simp [nats], .inr ⟨_, c, rfl, by simp [nats]⟩⟩
  · rw [if_neg hc]
    exact Src1.dropN h hn ht
theorem Own.shape {w : World} {e size n c : Nat} {A : Option Addr} {xs : List Value} (h : Own w e size (.slice A n c) n xs) : (A = none ∧ c = 0 ∧ n = 0) ∨ ∃ g, A = some ⟨g, 0, none⟩ ∧ n ≤ c := by
  rcases h.2 with ⟨he, h0⟩ | ⟨g', cap, cur, he, _, _, h1, _⟩
  · injection he with h1 h2 h3
    exact .inl ⟨h1, h3, h0⟩
  · injection he with h2 h3 h4
    exact .inr ⟨g', h2, by omega⟩
end Go.Proofs.Ytkdhhafoohnlnaa
