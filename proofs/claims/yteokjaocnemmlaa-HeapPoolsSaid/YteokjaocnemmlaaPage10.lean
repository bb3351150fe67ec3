/-
  The walks of package page: Insert.
-/
import Derived.Test.YteokjaocnemmlaaPage9
namespace Go.Proofs.Yteokjaocnemmlaa
open Go.RowKit

theorem size59 (v0 v1 v2 v3 v4 v5 : Value) : (Try.prog.info? 59).map (·.size) = some (#[v0, v1, v2, v3, v4, v5] : Array Value).size := by kernel_rfl
/-- A version as a row of cells. -/
def box (row xmin xmax np ns : Int) (v : Value) : Array Value := #[.int .u64 row, .int .u64 xmin, .int .u64 xmax, .int .i64 np, .int .i64 ns, v]
theorem size_box (row xmin xmax np ns : Int) (v : Value) : (Try.prog.info? 59).map (·.size) = some (box row xmin xmax np ns v).size := size59 _ _ _ _ _ _

set_option maxRecDepth 100000 in
set_option maxHeartbeats 4000000 in
theorem pinsert_bad (p : Nat) (row xmin xmax np ns : Int) (A : Option Addr) (n c : Nat) (w : World) (hr : rightB row xmin xmax np ns n = false) :
    Calls Try.prog 44 #[.pointer (some ⟨p, 0, none⟩), .agg #[.int .u64 row, .int .u64 xmin, .int .u64 xmax, .int .i64 np, .int .i64 ns, .slice A n c]] w fun e w' => e = .returned (.tuple #[.int .i64 0, .int .i64 3]) ∧ Chg [] w w' := by
  have hright := fun w => right_any row xmin xmax np ns A n c w
  rw [hr] at hright
  have HR := Lib.hid hright
  clear hright hr
  go_enter Try.func44, Try.ntmps44
  go_wp2_with (first | (refine wpList_load_row rfl 59 (.tmp 3) rfl w.heap.size rfl 59 #[.int .u64 row, .int .u64 xmin, .int .u64 xmax, .int .i64 np, .int .i64 ns, .slice A n c] (0, 0) _ (heap_alloc_new w _) Try.underlying59 rfl (size59 _ _ _ _ _ _) ?_) | (go_at_call 65; refine (HR.out _).mono ?_; rintro e w1 ⟨rfl, hC⟩; have HC := Lib.hid hC; clear hC))
  go_ret2
  exact ⟨rfl, ((Chg.refl [] w).alloc _).trans HC.out⟩

theorem cloned_src {w w' : World} {A : Option Addr} {z c : Nat} {l : List Int} (h : Cloned w w' (.slice A z c) l) (hz : l.length = z) (h0 : 0 < z) :
    ∃ g, A = some ⟨g, 0, none⟩ ∧ w.heap.size ≤ g ∧ ∀ j v, (l.map (Value.int .u8))[j]? = some v → w'.cell? ⟨g, 0 + j, none⟩ = some v := by
  obtain ⟨h1, _, h3⟩ := h
  have hc := h1
  rcases h1.2 with ⟨_, h2⟩ | ⟨g, cap, cur, he, _⟩
  · omega
  · injection he with he1 he2 he3
    subst he1
    refine ⟨g, rfl, h3 g rfl, fun j v hv => ?_⟩
    have := World.ownsRow.cells hc rfl j v hv
    rwa [Go.WideShapes.add_plain] at this
theorem src_chg {S : List Nat} {w w' : World} {g : Nat} {l : List Value} (h : ∀ j v, l[j]? = some v → w.cell? ⟨g, 0 + j, none⟩ = some v) (hC : Chg S w w') (hg : g ∉ S) : ∀ j v, l[j]? = some v → w'.cell? ⟨g, 0 + j, none⟩ = some v :=
  fun j v hv => hC.cell (h j v hv) hg
theorem src_add {w : World} {g : Nat} {l : List Value} (h : ∀ j v, l[j]? = some v → w.cell? ⟨g, 0 + j, none⟩ = some v) : ∀ j v, l[j]? = some v → w.cell? ((⟨g, 0, none⟩ : Addr).add j) = some v := by
  intro j v hv
  rw [Go.WideShapes.add_plain]
  exact h j v hv

theorem pack_verN (t : Tup) (A : Option Addr) (n c z : Nat) (w : World) (ho : t.Ok) (hn : n = t.data.length) (hz : z = t.size) (hsrc : Src1 w 1 (.slice A n c) n (bvals t.data)) :
    Calls Try.prog 68 #[.agg #[.int .u64 t.row, .int .u64 t.xmin, .int .u64 t.xmax, .int .i64 t.np, .int .i64 t.ns, .slice A n c]] w fun e w' => ∃ A' c', e = .returned (.slice A' z c') ∧ Cloned w w' (.slice A' z c') (packL t) := by
  subst hn hz
  exact pack_ver t A c w ho hsrc

set_option maxRecDepth 100000 in
set_option maxHeartbeats 4000000 in
theorem pinsert_ok {p : Nat} {f : Nat → Int} {L : PL} {fr : Nat → Nat} {st : Nat} {w : World} (h : PG f L fr st) (hp : Lies w p f) (t : Tup) (A : Option Addr) (c : Nat) (ho : t.Ok) (hroom : (t.data.length : Int) ≤ room L)
    (hsrc : Src1 w 1 (.slice A t.data.length c) t.data.length (bvals t.data)) :
    Calls Try.prog 44 #[.pointer (some ⟨p, 0, none⟩), t.val (.slice A t.data.length c)] w fun e w' => e = .returned (.tuple #[.int .i64 (freeSlot L), .int .i64 0]) ∧ (∃ f' fr' st', Lies w' p f' ∧ PG f' (ins L t) fr' st') ∧ Chg [p] w w' := by
  have hrb : rightB t.row t.xmin t.xmax t.np t.ns t.data.length = true := by
    have := ho.row; have := ho.xmin; have := ho.xmax; have := ho.far; have := ho.len
    unfold rightB
    rw [ho.far, decide_eq_true (by omega), decide_eq_true (by omega)]; rfl
  have hright := fun w => right_any t.row t.xmin t.xmax t.np t.ns A t.data.length c w
  rw [hrb] at hright
  have hplt := lt_of_heap hp
  obtain ⟨n, hn⟩ : ∃ n, n = t.data.length := ⟨_, rfl⟩
  obtain ⟨rm, hrm⟩ : ∃ rm, rm = room L := ⟨_, rfl⟩
  obtain ⟨fs, hfs⟩ : ∃ fs, fs = freeSlot L := ⟨_, rfl⟩
  have hroomc := fun (w : World) (hp : Lies w p f) => proom h hp
  rw [← hrm] at hroomc hroom
  have hfreec := fun (w : World) (hp : Lies w p f) => pfree h hp
  rw [← hfs] at hfreec
  rw [← hn] at hright hroom hsrc
  have d1 : decide (rm < (n : Int)) = false := by simp; omega
  have HRT := Lib.hid hright
  have HRM := Lib.hid hroomc
  have HFR := Lib.hid hfreec
  have HSRC := Lib.hid hsrc
  have HP := Lib.hid hp
  have HN := Lib.hid hn
  have HFS := Lib.hid hfs
  have HOK := Lib.hid ho
  have HH := Lib.hid h
  obtain ⟨z, hz⟩ : ∃ z, z = t.size := ⟨_, rfl⟩
  have HPK := Lib.hid (fun (w : World) (hsrc : Src1 w 1 (.slice A n c) n (bvals t.data)) => pack_verN t A n c z w ho hn hz hsrc)
  have HZ := Lib.hid hz
  have HRMF := Lib.hid hrm
  rw [← hfs, ← hn]
  clear hright hroomc hfreec hsrc hp hn hfs hrm hroom hrb ho h hz
  unfold Tup.val
  go_enter Try.func44, Try.ntmps44
  go_wp2_with (first | (refine wpList_load_row rfl 59 (.tmp 3) rfl w.heap.size rfl 59 #[.int .u64 t.row, .int .u64 t.xmin, .int .u64 t.xmax, .int .i64 t.np, .int .i64 t.ns, .slice A n c] (0, 0) _ (heap_alloc_new w _) Try.underlying59 rfl (size59 _ _ _ _ _ _) ?_) | (go_at_call 65; refine (HRT.out _).mono ?_; rintro e w1 ⟨rfl, hC⟩; have HC := Lib.hid hC; clear hC))
  have HG0 : Hid (w1.heap[w.heap.size]? = some (.cells #[.int .u64 t.row, .int .u64 t.xmin, .int .u64 t.xmax, .int .i64 t.np, .int .i64 t.ns, .slice A n c] 59 (0, 0))) := Lib.hid (HC.out.heap (heap_alloc_new w _) (by simp))
  have hc5 := one6 HG0.out 5 (by omega)
  simp only [List.getElem_toArray, List.getElem_cons_succ, List.getElem_cons_zero] at hc5
  have HP1 : Hid (Lies w1 p f) := Lib.hid (HC.out.heap ((Below.heap_alloc w _ _ hplt).trans HP.out) (by simp))
  have HC1 : Hid (Chg [] w w1) := Lib.hid (((Chg.refl [] w).alloc _).trans HC.out)
  clear HRT
  go_quiet ((go_at_call 66; exact quiet_more (HRM.out _ (by exact HP1.out))))
  go_wp2_with fail
  generalize hwv : w1.drewN _ = wv
  have HGv : Hid (wv.heap[w.heap.size]? = some (.cells #[.int .u64 t.row, .int .u64 t.xmin, .int .u64 t.xmax, .int .i64 t.np, .int .i64 t.ns, .slice A n c] 59 (0, 0))) := Lib.hid (by rw [← hwv]; exact HG0.out)
  have HPv : Hid (Lies wv p f) := Lib.hid (by rw [← hwv]; exact HP1.out)
  have HCv : Hid (Chg [] w wv) := Lib.hid (by rw [← hwv]; exact HC1.out.drewN _)
  clear hwv hc5
  have x0 : wv.cell? ⟨w.heap.size, 0, none⟩ = some (.int .u64 t.row) := one6 HGv.out 0 (by omega)
  have x1 : wv.cell? ⟨w.heap.size, 1, none⟩ = some (.int .u64 t.xmin) := one6 HGv.out 1 (by omega)
  have x2 : wv.cell? ⟨w.heap.size, 2, none⟩ = some (.int .u64 t.xmax) := one6 HGv.out 2 (by omega)
  have x3 : wv.cell? ⟨w.heap.size, 3, none⟩ = some (.int .i64 t.np) := one6 HGv.out 3 (by omega)
  have x4 : wv.cell? ⟨w.heap.size, 4, none⟩ = some (.int .i64 t.ns) := one6 HGv.out 4 (by omega)
  have x5 : wv.cell? ⟨w.heap.size, 5, none⟩ = some (.slice A n c) := one6 HGv.out 5 (by omega)
  have hsrcv : Src1 wv 1 (.slice A n c) n (bvals t.data) := HSRC.out.chg HCv.out (by simp)
  have HSRCv := Lib.hid hsrcv
  clear hsrcv
  go_region_held3 (fun w' => w'.cell? ⟨w.heap.size, 0, none⟩ = some (.int .u64 t.row) ∧ w'.cell? ⟨w.heap.size, 1, none⟩ = some (.int .u64 t.xmin) ∧ w'.cell? ⟨w.heap.size, 2, none⟩ = some (.int .u64 t.xmax) ∧ w'.cell? ⟨w.heap.size, 3, none⟩ = some (.int .i64 t.np) ∧ w'.cell? ⟨w.heap.size, 4, none⟩ = some (.int .i64 t.ns) ∧ w'.cell? ⟨w.heap.size, 5, none⟩ = some (.slice A n c)) (first | exact ⟨x0, x1, x2, x3, x4, x5⟩ | exact ⟨y0, y1, y2, y3, y4, y5⟩ | go_keep)
    (first
     | (go_at_call 67; refine (HFR.out _ (by exact HPv.out)).mono ?_; rintro e w5 ⟨rfl, n5, rfl⟩)
     | (go_at_call 68; refine (HPK.out _ (by exact HSRCv.out)).mono ?_; rintro e w6 ⟨A6, c6, rfl, hcl⟩; have y0 := hcl.2.1.cell (p := ⟨w.heap.size, 0, none⟩) (by exact x0) (by simp); have y1 := hcl.2.1.cell (p := ⟨w.heap.size, 1, none⟩) (by exact x1) (by simp); have y2 := hcl.2.1.cell (p := ⟨w.heap.size, 2, none⟩) (by exact x2) (by simp); have y3 := hcl.2.1.cell (p := ⟨w.heap.size, 3, none⟩) (by exact x3) (by simp); have y4 := hcl.2.1.cell (p := ⟨w.heap.size, 4, none⟩) (by exact x4) (by simp); have y5 := hcl.2.1.cell (p := ⟨w.heap.size, 5, none⟩) (by exact x5) (by simp); have HCL := Lib.hid hcl; clear hcl))
  clear x0 x1 x2 x3 x4 x5 y0 y1 y2 y3 y4 y5
  have hfin := HH.out.fits
  have hzlo := t.size_lo
  have hzhi := Tup.size_hi HOK.out
  have hfs1 := freeSlot_le L
  have hfit := room_fit (L := L) (t := t) (by rw [← HN.out, ← HRMF.out]; have := of_decide_eq_false d1; omega)
  have hlo := HH.out.lo
  have hhi := HH.out.hi
  rw [← HFS.out] at hfs1 hfit
  rw [← HZ.out] at hzlo hzhi hfit
  obtain ⟨g, rfl, hg, hgs⟩ := cloned_src HCL.out (by rw [packL_length, HZ.out]) (by omega)
  have hgp : g ≠ p := by have := HCv.out.size; have h2 : wv.heap.size ≤ g := hg; omega
  have HGS := Lib.hid hgs
  have HP6 : Hid (Lies w6 p f) := Lib.hid (HCL.out.2.1.heap (by exact HPv.out) (by simp))
  have HC6 : Hid (Chg [p] w w6) := Lib.hid ((HCv.out.drewN _).mono (by simp) |>.trans (HCL.out.2.1.mono (by simp)))
  obtain ⟨m, hm⟩ : ∃ m, m = L.length := ⟨_, rfl⟩
  obtain ⟨cnt, hcnt⟩ : ∃ cnt, cnt = max m (fs + 1) := ⟨_, rfl⟩
  have hmx : max (m : Int) ((fs : Int) + 1) = (cnt : Int) := by omega
  rw [← hm] at hfs1 hfit hlo hfin
  rw [← hcnt] at hfit
  have hC69 := fun (w : World) (hp : Lies w p f) => pcount p HH.out w hp
  rw [← hm] at hC69
  have HC69 := Lib.hid hC69
  have HC70 := Lib.hid (fun (w : World) (hp : Lies w p f) => pstart p HH.out w hp)
  have HM := Lib.hid hm
  have HCNT := Lib.hid hcnt
  have w1' : IntKind.i64.wrap ((fs : Int) + 1) = (fs : Int) + 1 := IntWalk.i64_in _ (by omega)
  have w2' : IntKind.i64.wrap ((st : Int) - (z : Int)) = (st : Int) - (z : Int) := IntWalk.i64_in _ (by omega)
  have w3' : IntKind.i64.wrap (4 * (cnt : Int)) = 4 * (cnt : Int) := IntWalk.i64_in _ (by omega)
  have w4' : IntKind.i64.wrap (4 + 4 * (cnt : Int)) = 4 + 4 * (cnt : Int) := IntWalk.i64_in _ (by omega)
  clear hgs hg hC69 hm hcnt
  by_cases hmove : (st : Int) - (z : Int) < 4 + 4 * (cnt : Int)
  · have dm := decide_eq_true hmove
    have HMV := Lib.hid (fun (w : World) (hp : Lies w p f) => pmove HH.out hp (by rw [← HM.out]; omega))
    have HMV := Lib.hid (fun (w : World) (hp : Lies w p f) => pmove HH.out hp (by rw [← HM.out]; omega))
    obtain ⟨sx, hsx⟩ : ∃ sx, sx = 512 - total L := ⟨_, rfl⟩
    obtain ⟨a, ha⟩ : ∃ a, a = sx - z := ⟨_, rfl⟩
    have haz : (sx : Int) - (z : Int) = (a : Int) := by omega
    have haz2 : a + z = sx := by omega
    have haz3 : z ≤ 512 - a := by omega
    have haz4 : a + z ≤ 512 := by omega
    have ha5 : (a : Int) ≤ 512 := by omega
    have ha6 : ¬ (512 = a) := by omega
    have ha0 : 0 ≤ (a : Int) := by omega
    have ha1 : (a : Int) ≤ 65535 := by omega
    have hc0 : 0 ≤ (cnt : Int) := by omega
    have hc1 : (cnt : Int) ≤ 65535 := by omega
    have hfs4 : 4 + 4 * fs + 4 ≤ 512 := by have := HCNT.out; omega
    have hz16 : 0 ≤ (z : Int) ∧ (z : Int) ≤ 65535 := by omega
    have hlo4 : 4 + 4 * cnt ≤ a := by omega
    have HLEN : Hid ((packL t).length = z) := Lib.hid (by rw [packL_length, HZ.out])
    have HSX := Lib.hid hsx
    clear hsx ha hmove
    go_wp2_with (first | (go_at_call 69; refine (HC69.out _ (by exact HP6.out)).mono ?_; rintro e w' ⟨rfl, rfl⟩) | (go_at_call 71; refine (HMV.out _ (by exact HP6.out)).mono ?_; rintro e wx ⟨rfl, ⟨fx, hpx, hgx⟩, hCx⟩; have hstx := pstart p hgx _ hpx; rw [← HSX.out] at hstx hgx; have HSTX := Lib.hid hstx; have HPX := Lib.hid hpx; have HGX := Lib.hid hgx; have HGSX := Lib.hid (src_chg HGS.out hCx (by simpa using hgp)); have HCX : Hid (Chg [p] w wx) := Lib.hid (HC6.out.trans hCx); clear hpx hgx hCx hstx) | (go_at_call 70; refine (HC70.out _ (by exact HP6.out)).mono ?_; rintro e w' ⟨rfl, rfl⟩) | (go_at_call 70; refine (HSTX.out).mono ?_; rintro e w' ⟨rfl, rfl⟩) | (go_at_call 64; refine (setp_any p fx cnt a _ hc0 hc1 ha0 ha1 (by exact HPX.out)).mono ?_; rintro e w7 ⟨rfl, hp7, hC7⟩; have HP7 := Lib.hid hp7; have HC7 : Hid (Chg [p] w w7) := Lib.hid (HCX.out.trans hC7); have HGS7 := Lib.hid (src_add (src_chg HGSX.out hC7 (by simpa using hgp))); clear hp7 hC7) | (refine wpList_copyb rfl (.tmp 57) (.tmp 58) 57 57 rfl 5 Try.underlying57 size5 p a (512 - a) (512 - a) 134 512 ⟨g, 0, none⟩ z c6 _ (packL t) rfl rfl HLEN.out haz3 (by exact HP7.out) haz4 (by exact HGS7.out) ?_; intro w8 hp8 hC8; have HP8 := Lib.hid hp8; have HC8 : Hid (Chg [p] w w8) := Lib.hid (HC7.out.trans hC8); clear hp8 hC8) | (go_at_call 72; refine (point_any p fs _ a z _ hfs4 ⟨ha0, ha1⟩ hz16 (by exact HP8.out)).mono ?_; rintro e w9 ⟨rfl, hp9, hC9⟩; have HP9 := Lib.hid hp9; have HC9 : Hid (Chg [p] w w9) := Lib.hid (HC8.out.trans hC9); clear hp9 hC9))
    go_ret2
    refine ⟨rfl, ⟨placeF fx cnt a fs t, (fun k => if k = fs then a else movedAt L k), a, ?_, ?_⟩, HC9.out⟩
    · have := HP9.out
      rw [HZ.out] at this
      exact this
    · unfold ins
      rw [← HFS.out]
      exact HGX.out.place (by rw [← HM.out]; exact hfs1) (fun hl => by rw [HFS.out] at hl ⊢; exact freeSlot_lt hl) HOK.out (by rw [← HM.out]; exact HCNT.out) (by rw [← HZ.out]; exact haz2) hlo4 (by rw [← HZ.out]; exact hfit)
  · have dm := decide_eq_false hmove
    obtain ⟨a, ha⟩ : ∃ a, a = st - z := ⟨_, rfl⟩
    have haz : (st : Int) - (z : Int) = (a : Int) := by omega
    have haz2 : a + z = st := by omega
    have haz3 : z ≤ 512 - a := by omega
    have haz4 : a + z ≤ 512 := by omega
    have ha5 : (a : Int) ≤ 512 := by omega
    have ha6 : ¬ (512 = a) := by omega
    have ha0 : 0 ≤ (a : Int) := by omega
    have ha1 : (a : Int) ≤ 65535 := by omega
    have hc0 : 0 ≤ (cnt : Int) := by omega
    have hc1 : (cnt : Int) ≤ 65535 := by omega
    have hfs4 : 4 + 4 * fs + 4 ≤ 512 := by have := HCNT.out; omega
    have hz16 : 0 ≤ (z : Int) ∧ (z : Int) ≤ 65535 := by omega
    have hlo4 : 4 + 4 * cnt ≤ a := by omega
    have HLEN : Hid ((packL t).length = z) := Lib.hid (by rw [packL_length, HZ.out])
    clear ha hmove
    go_wp2_with (first | (go_at_call 69; refine (HC69.out _ (by exact HP6.out)).mono ?_; rintro e w' ⟨rfl, rfl⟩) | (go_at_call 70; refine (HC70.out _ (by exact HP6.out)).mono ?_; rintro e w' ⟨rfl, rfl⟩) | (go_at_call 64; refine (setp_any p f cnt a _ hc0 hc1 ha0 ha1 (by exact HP6.out)).mono ?_; rintro e w7 ⟨rfl, hp7, hC7⟩; have HP7 := Lib.hid hp7; have HC7 : Hid (Chg [p] w w7) := Lib.hid (HC6.out.trans hC7); have HGS7 := Lib.hid (src_add (src_chg HGS.out hC7 (by simpa using hgp))); clear hp7 hC7) | (refine wpList_copyb rfl (.tmp 57) (.tmp 58) 57 57 rfl 5 Try.underlying57 size5 p a (512 - a) (512 - a) 134 512 ⟨g, 0, none⟩ z c6 _ (packL t) rfl rfl HLEN.out haz3 (by exact HP7.out) haz4 (by exact HGS7.out) ?_; intro w8 hp8 hC8; have HP8 := Lib.hid hp8; have HC8 : Hid (Chg [p] w w8) := Lib.hid (HC7.out.trans hC8); clear hp8 hC8) | (go_at_call 72; refine (point_any p fs _ a z _ hfs4 ⟨ha0, ha1⟩ hz16 (by exact HP8.out)).mono ?_; rintro e w9 ⟨rfl, hp9, hC9⟩; have HP9 := Lib.hid hp9; have HC9 : Hid (Chg [p] w w9) := Lib.hid (HC8.out.trans hC9); clear hp9 hC9))
    go_ret2
    refine ⟨rfl, ⟨placeF f cnt a fs t, (fun k => if k = fs then a else fr k), a, ?_, ?_⟩, HC9.out⟩
    · have := HP9.out
      rw [HZ.out] at this
      exact this
    · unfold ins
      rw [← HFS.out]
      exact HH.out.place (by rw [← HM.out]; exact hfs1) (fun hl => by rw [HFS.out] at hl ⊢; exact freeSlot_lt hl) HOK.out (by rw [← HM.out]; exact HCNT.out) (by rw [← HZ.out]; exact haz2) hlo4 (by rw [← HZ.out]; exact hfit)
end Go.Proofs.Yteokjaocnemmlaa
