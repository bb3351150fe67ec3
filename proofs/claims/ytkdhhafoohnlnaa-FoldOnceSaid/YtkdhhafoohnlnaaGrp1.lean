/-
  Groups in memory; the walks of fold.Groups' closure and of IndexFunc.
-/
import Derived.Test.YtkdhhafoohnlnaaRows4
namespace Go.Proofs.Ytkdhhafoohnlnaa
open Go.RowKit

theorem info_parts {T size bytes : Nat} {z : Value} (h : (Try.prog.info? T).map (fun i => (i.zero, i.size, i.bytes)) = some (some z, size, bytes)) : ∃ i, Try.prog.info? T = some i ∧ i.zero = some z ∧ i.size = size ∧ i.bytes = bytes := by
  cases hi : Try.prog.info? T with
  | none => rw [hi] at h; cases h
  | some i =>
    rw [hi] at h
    simp only [Option.map_some, Option.some.injEq, Prod.mk.injEq] at h
    exact ⟨i, rfl, h.1, h.2.1, h.2.2⟩
theorem Try.info3 : (Try.prog.info? 3).map (fun i => (i.zero, i.size, i.bytes)) = some (some (.int .i64 0), 1, 8) := by kernel_rfl
theorem Try.info28 : (Try.prog.info? 28).map (fun i => (i.zero, i.size, i.bytes)) = some (some (.slice none 0 0), 1, 24) := by kernel_rfl
theorem Try.info34 : (Try.prog.info? 34).map (fun i => (i.zero, i.size, i.bytes)) = some (some (.slice none 0 0), 1, 24) := by kernel_rfl
theorem Try.info39 : (Try.prog.info? 39).map (fun i => (i.zero, i.size, i.bytes)) = some (some (.agg #[.int .u8 0, .int .i64 0, .string ⟨#[]⟩, .bool false]), 4, 40) := by kernel_rfl
theorem El28 : ElTy Try.prog 28 3 1 8 := by
  obtain ⟨i, hi, hz, hs, hb⟩ := info_parts Try.info3
  exact ⟨i, _, Try.underlying28, hi, hz, hs, hb, rfl, by omega⟩
theorem El25 : ElTy Try.prog 25 28 1 24 := by
  obtain ⟨i, hi, hz, hs, hb⟩ := info_parts Try.info28
  exact ⟨i, _, Try.underlying25, hi, hz, hs, hb, rfl, by omega⟩
theorem El22 : ElTy Try.prog 22 34 1 24 := by
  obtain ⟨i, hi, hz, hs, hb⟩ := info_parts Try.info34
  exact ⟨i, _, Try.underlying22, hi, hz, hs, hb, rfl, by omega⟩
theorem El34 : ElTy Try.prog 34 39 4 40 := by
  obtain ⟨i, hi, hz, hs, hb⟩ := info_parts Try.info39
  exact ⟨i, _, Try.underlying34, hi, hz, hs, hb, rfl, by omega⟩

/-- Numbers as cells. -/
def nats (l : List Nat) : List Value := l.map fun (i : Nat) => .int .i64 (i : Int)
theorem nats_get {l : List Nat} {j i : Nat} (h : l[j]? = some i) : (nats l)[j]? = some (.int .i64 i) := by unfold nats; rw [List.getElem?_map, h]; rfl
theorem nats_app (l : List Nat) (i : Nat) : nats l ++ [.int .i64 i] = nats (l ++ [i]) := by unfold nats; simp
theorem nats_one (l : List Nat) : ∀ u, u ∈ nats l → u.oneCell' = true := by
  intro u hu
  obtain ⟨i, _, rfl⟩ := List.mem_map.1 hu
  rfl
/-- A slice of numbers of the call's own. -/
abbrev NatsAt (w : World) (v : Value) (l : List Nat) : Prop := Own w 3 1 v l.length (nats l)
theorem NatsAt.cell {w : World} {v : Value} {l : List Nat} (h : NatsAt w v l) {j i : Nat} (hj : l[j]? = some i) : ∃ g c, v = .slice (some ⟨g, 0, none⟩) l.length c ∧ w.cell? ⟨g, j, none⟩ = some (.int .i64 i) := by
  have hl : j < l.length := by rcases Nat.lt_or_ge j l.length with h | h <;> simp_all
  rcases h.2 with ⟨_, h2⟩ | ⟨g, cap, cur, he, _⟩
  · omega
  · have := World.ownsRow.cells h (g := g) (by rw [he]; rfl) _ _ (nats_get hj)
    rw [Go.WideShapes.add_plain] at this
    simp only [Nat.zero_add] at this
    exact ⟨g, cap, he, this⟩
/-- Groups of numbers of the call's own. -/
structure GAt (w : World) (v : Value) (out : List (List Nat)) (vs : List Value) : Prop where
  len : vs.length = out.length
  row : Own w 28 1 v out.length vs
  inn : ∀ (j : Nat) (l : List Nat) (u : Value), out[j]? = some l → vs[j]? = some u → NatsAt w u l
  dis : ∀ (i j b : Nat) (u u' : Value), i ≠ j → vs[i]? = some u → vs[j]? = some u' → u.ownBlock = some b → u'.ownBlock ≠ some b
  ne : ∀ l, l ∈ out → l ≠ []
theorem GAt.chg {w w' : World} {v : Value} {out : List (List Nat)} {vs : List Value} (h : GAt w v out vs) (hC : Chg [] w w') : GAt w' v out vs :=
  ⟨h.len, h.row.chg hC (by simp), fun j l u hl hu => (h.inn j l u hl hu).chg hC (by simp), h.dis, h.ne⟩
theorem GAt.nil (w : World) : GAt w (.slice none 0 0) [] [] := ⟨rfl, ⟨rfl, .inl ⟨rfl, rfl⟩⟩, by simp, by simp, by simp⟩
theorem GAt.cell {w : World} {v : Value} {out : List (List Nat)} {vs : List Value} (h : GAt w v out vs) {j : Nat} {u : Value} (hj : vs[j]? = some u) : ∃ g c, v = .slice (some ⟨g, 0, none⟩) out.length c ∧ w.cell? ⟨g, j, none⟩ = some u := by
  have hl : j < vs.length := by rcases Nat.lt_or_ge j vs.length with h | h <;> simp_all
  have := h.len
  rcases h.row.2 with ⟨_, h2⟩ | ⟨g, cap, cur, he, _⟩
  · omega
  · have := World.ownsRow.cells h.row (g := g) (by rw [he]; rfl) _ _ hj
    rw [Go.WideShapes.add_plain] at this
    simp only [Nat.zero_add] at this
    exact ⟨g, cap, he, this⟩

/-- Does a group's first bear a key? -/
def inG (K : List (List Vl)) (k : List Vl) (l : List Nat) : Bool := sameK (K.getD (l.headD 0) []) k
theorem KeysAt.cell {w : World} {v : Value} {K : List (List Vl)} (h : KeysAt w v K) {j : Nat} {l : List Vl} (hj : K[j]? = some l) : ∃ b off c u, v = .slice (some ⟨b, off, none⟩) K.length c ∧ w.cell? ⟨b, off + j, none⟩ = some u ∧ RowAt w u l := by
  obtain ⟨A, c, vs, rfl, hc⟩ := h
  obtain ⟨b, off, rfl, h1, h2⟩ := hc j l hj
  exact ⟨b, off, c, _, rfl, h1, h2⟩

set_option maxRecDepth 100000 in
set_option maxHeartbeats 4000000 in
theorem clo24 {w : World} {vK vk vl : Value} {bk bi : Nat} {K : List (List Vl)} {k : List Vl} {l : List Nat} (hbk : w.cell? ⟨bk, 0, none⟩ = some vK) (hbi : w.cell? ⟨bi, 0, none⟩ = some vk) (hK : KeysAt w vK K) (hk : RowAt w vk k) (hl : NatsAt w vl l) (hne : l ≠ []) (hin : ∀ i, i ∈ l → i < K.length) (hlen : ∀ r, r ∈ K → r.length ≤ 1000) :
    Calls Try.prog 24 #[vl, .pointer (some ⟨bk, 0, none⟩), .pointer (some ⟨bi, 0, none⟩)] w fun e w' => e = .returned (.bool (inG K k l)) ∧ Chg [] w w' := by
  obtain ⟨i, hi⟩ : ∃ i, l[0]? = some i := ⟨_, List.getElem?_eq_getElem (List.length_pos_iff.2 hne)⟩
  have hiK := hin i (List.mem_of_getElem? hi)
  obtain ⟨r, hr⟩ : ∃ r, K[i]? = some r := ⟨_, List.getElem?_eq_getElem hiK⟩
  obtain ⟨g, c, rfl, hg⟩ := hl.cell hi
  obtain ⟨b, off, c', u, rfl, hu, hru⟩ := hK.cell hr
  have he : inG K k l = sameK r k := by
    unfold inG
    rw [List.headD_eq_head?_getD, List.head?_eq_getElem?, hi]
    show sameK (K.getD i []) k = _
    rw [List.getD_eq_getElem?_getD, hr]; rfl
  rw [he]
  have HS := Lib.hid (fun (w0 : World) (hC : Chg [] w w0) => fsame_any u vk r k w0 (hru.chg hC) (hk.chg hC) (hlen r (List.mem_of_getElem? hr)))
  have hl0 : (0 : Int) < (l.length : Int) := by have := List.length_pos_iff.2 hne; omega
  have hl1 : 0 < l.length := List.length_pos_iff.2 hne
  have hiKi : (i : Int) < (K.length : Int) := by omega
  obtain ⟨n, hn⟩ : ∃ n, n = l.length := ⟨_, rfl⟩
  obtain ⟨m, hm⟩ : ∃ m, m = K.length := ⟨_, rfl⟩
  rw [← hn] at hl0 hl1 ⊢
  rw [← hm] at hiK hiKi hbk
  obtain ⟨s, hs⟩ : ∃ s, s = sameK r k := ⟨_, rfl⟩
  rw [← hs] at HS ⊢
  clear hK hk hl hne hin hlen hi hr he hru hn hm hs
  go_enter Try.func24, Try.ntmps24
  go_wp2_with fail
  go_region_held3 (fun w' => w'.cell? ⟨bk, 0, none⟩ = some (.slice (some ⟨b, off, none⟩) m c') ∧ w'.cell? ⟨bi, 0, none⟩ = some vk ∧ w'.cell? ⟨g, 0, none⟩ = some (.int .i64 i) ∧ w'.cell? ⟨b, off + i, none⟩ = some u) (first | with_reducible exact ⟨hbk, hbi, hg, hu⟩ | with_reducible exact ⟨y0, y1, y2, y3⟩ | go_keep)
    (first
     | (go_at_call 25; (with_reducible refine (HS.out _ (by first | exact (Chg.refl [] w).drew | exact (Chg.refl [] w).same)).mono ?_); rintro e w2 ⟨rfl, hC2⟩; have y0 := hC2.cell (p := ⟨bk, 0, none⟩) (by exact hbk) (by simp); have y1 := hC2.cell (p := ⟨bi, 0, none⟩) (by exact hbi) (by simp); have y2 := hC2.cell (p := ⟨g, 0, none⟩) (by exact hg) (by simp); have y3 := hC2.cell (p := ⟨b, off + i, none⟩) (by exact hu) (by simp); have HCC := Lib.hid (Chg.trans (S := []) (a := w) (by first | exact (Chg.refl [] w).drew | exact (Chg.refl [] w).same) hC2); clear hC2))
  go_wp2_with fail
  go_ret
  exact ⟨rfl, HCC.out⟩

/-- Where the first of them is. -/
def findG (K : List (List Vl)) (k : List Vl) (out : List (List Nat)) : Option Nat := out.findIdx? (inG K k)
def idxV : Option Nat → Int
  | some g => g
  | none => -1
set_option maxRecDepth 100000 in
set_option maxHeartbeats 4000000 in
theorem idx23 {w : World} {vK vk v : Value} {bk bi : Nat} {K : List (List Vl)} {k : List Vl} {out : List (List Nat)} {vs : List Value} (hbk : w.cell? ⟨bk, 0, none⟩ = some vK) (hbi : w.cell? ⟨bi, 0, none⟩ = some vk) (hK : KeysAt w vK K) (hk : RowAt w vk k) (hG : GAt w v out vs) (hin : ∀ l, l ∈ out → ∀ i, i ∈ l → i < K.length) (hlen : ∀ r, r ∈ K → r.length ≤ 1000) (hol : out.length ≤ 1000000) :
    Calls Try.prog 23 #[v, .func (.func 24) #[] #[.pointer (some ⟨bk, 0, none⟩), .pointer (some ⟨bi, 0, none⟩)]] w fun e w' => e = .returned (.int .i64 (idxV (findG K k out))) ∧ Chg [] w w' := by
  obtain ⟨A, c, rfl⟩ := hG.row.form'
  obtain ⟨n, hn⟩ : ∃ n, n = out.length := ⟨_, rfl⟩
  have HCL := Lib.hid (fun (j : Nat) (l : List Nat) (u : Value) (hl : out[j]? = some l) (hu : vs[j]? = some u) (w0 : World) (hC : Chg [] w w0) => clo24 (hC.cell hbk (by simp)) (hC.cell hbi (by simp)) (hK.chg hC) (hk.chg hC) ((hG.chg hC).inn j l u hl hu) (hG.ne l (List.mem_of_getElem? hl)) (hin l (List.mem_of_getElem? hl)) hlen)
  have HG := Lib.hid hG
  have HN := Lib.hid hn
  rw [← hn] at hol ⊢
  obtain ⟨z, hz⟩ : ∃ z, z = idxV (findG K k out) := ⟨_, rfl⟩
  rw [← hz]
  have HZ := Lib.hid hz
  clear hz
  clear hbk hbi hK hk hin hlen hG hn
  go_enter Try.func23, Try.ntmps23
  go_wp2_with fail
  go_loopw [8] (fun i wr => ∃ j : Nat, i = .int .i64 j ∧ j ≤ n ∧ (∀ (q : Nat) (l : List Nat), q < j → out[q]? = some l → inG K k l = false) ∧ Chg [] w wr) (fun i _ => n - (intOf i).toNat)
  case atStart => exact ⟨0, rfl, by omega, by intro q l hq; omega, Chg.refl [] w⟩
  case round =>
    obtain ⟨j, rfl, hj, hbef, hCr⟩ := hrel
    have HBEF := Lib.hid hbef
    have HCR := Lib.hid hCr
    clear hbef hCr
    by_cases hlt : j < n
    · obtain ⟨l, hl⟩ : ∃ l, out[j]? = some l := ⟨_, List.getElem?_eq_getElem (by rw [← HN.out]; exact hlt)⟩
      obtain ⟨u, hu⟩ : ∃ u, vs[j]? = some u := ⟨_, List.getElem?_eq_getElem (by rw [HG.out.len, ← HN.out]; exact hlt)⟩
      obtain ⟨g, c', he, hg⟩ := HG.out.cell hu
      injection he with he1 he2 he3
      subst he1 he3
      have xg := HCR.out.cell hg (by simp)
      have I := Lib.hid (HCL.out j l u hl hu wr HCR.out)
      have HL := Lib.hid hl
      obtain ⟨s, hs⟩ : ∃ s, s = inG K k l := ⟨_, rfl⟩
      rw [← hs] at I
      have HS := Lib.hid hs
      have hji : (j : Int) < (n : Int) := by omega
      clear hl hu hs hg he2
      cases s with
      | true =>
        have hfd : findG K k out = some j := by
          unfold findG
          rw [List.findIdx?_eq_some_iff_getElem]
          have hjl : j < out.length := by rw [← HN.out]; exact hlt
          have hoj : out[j] = l := by have := HL.out; rw [List.getElem?_eq_getElem hjl] at this; injection this
          refine ⟨hjl, by rw [hoj]; exact HS.out.symm, fun q hq => ?_⟩
          rw [HBEF.out q out[q] hq (List.getElem?_eq_getElem (by omega))]
          simp
        have hz : z = (j : Int) := by rw [HZ.out, hfd]; rfl
        subst hz
        clear hfd
        go_wp2_with (first | (go_at_call 24; refine I.out.mono ?_; rintro e w2 ⟨rfl, hC2⟩; have HC2 := Lib.hid hC2; clear hC2))
        go_ret
        exact ⟨rfl, HCR.out.trans HC2.out⟩
      | false =>
        go_wp2_with (first | (go_at_call 24; refine I.out.mono ?_; rintro e w2 ⟨rfl, hC2⟩; have HC2 := Lib.hid hC2; clear hC2))
        go_roundw
        case measure => simp [intOf]; omega
        case rel =>
          refine ⟨j + 1, by go_num, by omega, ?_, HCR.out.trans HC2.out⟩
          intro q l' hq hl'
          by_cases hqj : q = j
          · subst hqj
            have := HL.out
            rw [hl'] at this
            injection this with this
            rw [this]
            exact HS.out.symm
          · exact HBEF.out q l' (by omega) hl'
    · have hfd : findG K k out = none := by
        unfold findG
        rw [List.findIdx?_eq_none_iff]
        intro l hl
        obtain ⟨q, hq⟩ := List.getElem?_of_mem hl
        have hql : q < out.length := by rcases Nat.lt_or_ge q out.length with h | h <;> simp_all
        exact HBEF.out q l (by have := HN.out; omega) hq
      have hz : z = -1 := by rw [HZ.out, hfd]; rfl
      subst hz
      clear hfd
      go_wp2_with fail
      go_ret
      exact ⟨rfl, HCR.out⟩
end Go.Proofs.Ytkdhhafoohnlnaa
