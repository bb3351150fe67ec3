/-
  The walk of lapidarylaw06.RoomPlays: it returns true, and turns nothing that was there.
-/
import Derived.Test.YteokjaocnemmlaaAwake6
import Derived.Deep.RegionHeld3
namespace Go.Proofs.Yteokjaocnemmlaa
open Go.RowKit

/-- A slice of the law's steps that came in: three numbers each. -/
def InOps (w : World) (A : Option Addr) (n : Nat) (p r d : Nat → Int) : Prop := 0 < n → ∃ b off, A = some ⟨b, off, none⟩ ∧ ∀ j, j < n → w.cell? ⟨b, off + j * 3, none⟩ = some (.int .i64 (p j)) ∧ w.cell? ⟨b, off + j * 3 + 1, none⟩ = some (.int .i64 (r j)) ∧ w.cell? ⟨b, off + j * 3 + 2, none⟩ = some (.int .i64 (d j))

theorem _root_.Go.RowKit.Below.drewN' {B : Nat} {a w : World} (h : Below B a w) (n : Nat) : Below B a (w.drewN n) := ⟨h.os, h.tape, h.output, h.size, h.block⟩
theorem quiet_here {P : Program} {f : FuncId} {args : Array Value} {w : World} {n : Nat} {v : Value}
    (h : Calls P f args (w.drewN n) fun e w' => e = .returned v ∧ w.drewN n = w') : Calls P f args (w.drewN n) fun e w'' => e = .returned v ∧ ∃ m, w'' = w.drewN m :=
  h.mono fun _ _ ⟨he, hm⟩ => ⟨he, n, hm.symm⟩

set_option maxRecDepth 100000 in
set_option maxHeartbeats 2000000 in
theorem plays_nil (A : Option Addr) (n cap : Nat) (p r d : Nat → Int) (w : World) (hz : InOps w A n p r d) :
    Calls Try.prog 4 #[.bool true, .slice A n cap] w fun e w' => e = .returned (.bool true) ∧ Below w.heap.size w w' := by
  go_enter Try.func4, Try.ntmps4
  go_wp2_with (first | (go_at_call 12; refine (awake6_any _).mono ?_; rintro e w0 ⟨rfl, hC0⟩) | (go_at_call 13; refine (new_any _).mono ?_; rintro e w1 ⟨rfl, rfl⟩))
  generalize hw1 : (w0.alloc (ints .i64 97 513 (newf 512))).alloc _ = w1
  have hB : Below w.heap.size w w1 := by rw [← hw1]; exact ((hC0.below (Nat.le_refl _) (by simp)).alloc hC0.size _).alloc (by have := hC0.size; simp; omega) _
  clear hw1 hC0
  go_loopw [21] (fun i wr => ∃ k : Nat, i = .int .i64 k ∧ k ≤ n ∧ k ≤ 300 ∧ Below w.heap.size w wr) (fun i _ => n - (intOf i).toNat)
  case atStart => exact ⟨0, rfl, by omega, by omega, hB⟩
  case round =>
    obtain ⟨k, rfl, hk, hk3, hBr⟩ := hrel
    by_cases hlt : k < n
    · obtain ⟨g, off, rfl, hcz⟩ := hz (by omega)
      obtain ⟨c1, c2, c3⟩ := hcz k (by omega)
      by_cases h3 : k < 300
      · have g1 := (hBr.cell (World.block_lt_of_cell? _ _ c1)).trans c1
        have g2 := (hBr.cell (World.block_lt_of_cell? _ _ c2)).trans c2
        have g3 := (hBr.cell (World.block_lt_of_cell? _ _ c3)).trans c3
        have hbl := World.block_lt_of_cell? _ _ c1
        simp at hbl
        clear hcz c1 c2 c3 hz
        have HB := Lib.hid hBr
        have d3 : decide ((300 : Int) ≤ k) = false := by simp; omega
        go_wp2_with fail
        generalize hwa : wr.alloc _ = wa
        have a1 : wa.cell? ⟨wr.heap.size, 0, none⟩ = some (.int .i64 (p k)) := by rw [← hwa]; simp
        have a2 : wa.cell? ⟨wr.heap.size, 1, none⟩ = some (.int .i64 (r k)) := by rw [← hwa]; simp
        have a3 : wa.cell? ⟨wr.heap.size, 2, none⟩ = some (.int .i64 (d k)) := by rw [← hwa]; simp
        have hBa : Below w.heap.size w wa := by rw [← hwa]; exact HB.out.alloc HB.out.size _
        clear hwa
        go_quiet ((first | (go_at_call 14; exact quiet_here (set_nil _ _ _)) | (go_at_call 17; exact quiet_here (rset_nil _ _ _))))
        go_wp2_with (first | (go_at_call 16; refine (find_nil _ _).mono ?_; rintro e w3 ⟨rfl, rfl⟩) | (go_at_call 18; refine (rfind_nil _ _).mono ?_; rintro e w3 ⟨rfl, rfl⟩))
        generalize hwb : wa.drewN nq = wb
        have b1 : wb.cell? ⟨wr.heap.size, 0, none⟩ = some (.int .i64 (p k)) := by rw [← hwb]; exact a1
        have b3 : wb.cell? ⟨wr.heap.size, 2, none⟩ = some (.int .i64 (d k)) := by rw [← hwb]; exact a3
        have hBb : Below w.heap.size w wb := by rw [← hwb]; exact ⟨hBa.os, hBa.tape, hBa.output, hBa.size, hBa.block⟩
        clear hwb a1 a2 a3 hBa
        go_quiet ((first | (go_at_call 19; exact quiet_here (get_nil _ _)) | (go_at_call 20; exact quiet_here (rget_nil _ _))))
        go_wp2_with fail
        generalize hwc : wb.drewN nq = wc
        have hBc : Below w.heap.size w wc := by rw [← hwc]; exact ⟨hBb.os, hBb.tape, hBb.output, hBb.size, hBb.block⟩
        clear hwc b1 b3 hBb
        go_quiet ((first | (go_at_call 15; exact quiet_here (pages_nil _))))
        go_wp2_with fail
        go_roundw
        case measure => simp [intOf]; omega
        case rel => exact ⟨k + 1, by go_num, by omega, by omega, hBc.drewN' _⟩
      · have hk' : k = 300 := by omega
        have g1 := (hBr.cell (World.block_lt_of_cell? _ _ c1)).trans c1
        have g2 := (hBr.cell (World.block_lt_of_cell? _ _ c2)).trans c2
        have g3 := (hBr.cell (World.block_lt_of_cell? _ _ c3)).trans c3
        have hbl := World.block_lt_of_cell? _ _ c1
        simp at hbl
        clear hcz c1 c2 c3 hz
        have HB := Lib.hid hBr
        have d3 : decide ((300 : Int) ≤ k) = true := by simp; omega
        clear hk'
        go_wp2
        go_ret
        exact ⟨rfl, HB.out.alloc HB.out.size _⟩
    · have HB := Lib.hid hBr
      clear hz
      go_wp2
      go_ret
      exact ⟨rfl, HB.out⟩

theorem IsRef.chg {S : List Nat} {w w' : World} {b : Nat} {v : Value} {L : List Int} (h : IsRef w b v L) (hc : Chg S w w') (hb : b ∉ S) (hv : ∀ k, v.ownBlock = some k → k ∉ S) : IsRef w' b v L := ⟨hc.heap h.1 hb, h.2.chg hc hv⟩
theorem Chg.ref {S : List Nat} {w w' : World} {b : Nat} {v : Value} {L : List Int} (hc : Chg S w w') (h : IsRef w b v L) (hb : b ∉ S) (hv : ∀ k, v.ownBlock = some k → k ∉ S) : IsRef w' b v L := h.chg hc hb hv
theorem Chg.map {S : List Nat} {w w' : World} {b : Nat} {L : List Int} (hc : Chg S w w') (h : IsMap w b L) (hb : b ∉ S) : IsMap w' b L := h.chg hc hb
theorem map_ref_ne {w : World} {b rb : Nat} {v : Value} {L L' : List Int} (hm : IsMap w b L) (hr : IsRef w rb v L') : b ∉ rb :: v.ownBlock.toList := by
  obtain ⟨f, hf, _⟩ := hm
  intro h
  simp at h
  rcases h with h | h
  · subst h; have := hr.1; rw [hf] at this; simp [ints] at this
  · exact hr.2.ne hf (by decide) h

set_option maxRecDepth 100000 in
set_option maxHeartbeats 4000000 in
theorem plays_some (A : Option Addr) (n cap : Nat) (p r d : Nat → Int) (w : World) (hz : InOps w A n p r d) :
    Calls Try.prog 4 #[.bool false, .slice A n cap] w fun e w' => e = .returned (.bool true) ∧ Below w.heap.size w w' := by
  go_enter Try.func4, Try.ntmps4
  go_wp2_with (first | (go_at_call 12; refine (awake6_any _).mono ?_; rintro e w0 ⟨rfl, hC0⟩) | (go_at_call 13; refine (new_any _).mono ?_; rintro e w1 ⟨rfl, rfl⟩))
  generalize hw1 : (w0.alloc (ints .i64 97 513 (newf 512))).alloc _ = w1
  have hB : Below w.heap.size w w1 := by rw [← hw1]; exact ((hC0.below (Nat.le_refl _) (by simp)).alloc hC0.size _).alloc (by have := hC0.size; simp; omega) _
  have hm : IsMap w1 w0.heap.size [] := by rw [← hw1]; exact (IsMap.new w0).chg ((Chg.refl [] _).alloc _) (by simp)
  have hr : IsRef w1 (w0.heap.size + 1) (.slice none 0 0) [] := by
    rw [← hw1]
    refine ⟨?_, World.ownsRow_nil _ _ _ _⟩
    have := heap_alloc_new (w0.alloc (ints .i64 97 513 (newf 512))) (.cells #[.slice none 0 0] 35)
    simpa using this
  have hle := hC0.size
  clear hw1 hC0
  obtain ⟨b, hb⟩ : ∃ b, b = w0.heap.size := ⟨_, rfl⟩
  rw [← hb] at hm hr hle ⊢
  clear hb
  go_loopw [21] (fun i wr => ∃ (k : Nat) (v : Value) (L : List Int), i = .int .i64 k ∧ k ≤ n ∧ k ≤ 300 ∧ Below w.heap.size w wr ∧ IsMap wr b L ∧ IsRef wr (b + 1) v L ∧ L.length ≤ 256 ∧ (∀ x, v.ownBlock = some x → w.heap.size ≤ x)) (fun i _ => n - (intOf i).toNat)
  case atStart => exact ⟨0, _, _, rfl, by omega, by omega, hB, hm, hr, by simp, by simp [Value.ownBlock]⟩
  case round =>
    obtain ⟨k, v, L, rfl, hk, hk3, hBr, hmr, hrr, hL, hv⟩ := hrel
    have HM := Lib.hid hmr
    have HR := Lib.hid hrr
    have HV := Lib.hid hv
    clear hm hr hB hmr hrr hv
    by_cases hlt : k < n
    · obtain ⟨g, off, rfl, hcz⟩ := hz (by omega)
      obtain ⟨c1, c2, c3⟩ := hcz k (by omega)
      have g1 := (hBr.cell (World.block_lt_of_cell? _ _ c1)).trans c1
      have g2 := (hBr.cell (World.block_lt_of_cell? _ _ c2)).trans c2
      have g3 := (hBr.cell (World.block_lt_of_cell? _ _ c3)).trans c3
      have hsz := hBr.size
      have hbl := World.block_lt_of_cell? _ _ c1
      simp at hbl
      have HB := Lib.hid hBr
      clear hcz c1 c2 c3 hz hBr
      by_cases h3 : k < 300
      · have d3 : decide ((300 : Int) ≤ k) = false := by simp; omega
        go_wp2_with fail
        generalize hwa : wr.alloc _ = wa
        have a1 : wa.cell? ⟨wr.heap.size, 0, none⟩ = some (.int .i64 (p k)) := by rw [← hwa]; simp
        have a2 : wa.cell? ⟨wr.heap.size, 1, none⟩ = some (.int .i64 (r k)) := by rw [← hwa]; simp
        have a3 : wa.cell? ⟨wr.heap.size, 2, none⟩ = some (.int .i64 (d k)) := by rw [← hwa]; simp
        have hBa : Below w.heap.size w wa := by rw [← hwa]; exact HB.out.alloc HB.out.size _
        have hma : IsMap wa b L := by rw [← hwa]; exact HM.out.chg ((Chg.refl [] _).alloc _) (by simp)
        have hra : IsRef wa (b + 1) v L := by rw [← hwa]; exact HR.out.chg ((Chg.refl [] _).alloc _) (by simp) (by simp)
        clear hwa
        have hlb : b < wr.heap.size := HM.out.lt
        have hlr : b + 1 < wr.heap.size := HR.out.lt
        have hlv : ∀ x, v.ownBlock = some x → x < wr.heap.size := HR.out.2.lt'
        have nin : (⟨wr.heap.size, 0, none⟩ : Addr).block ∉ (b + 1) :: v.ownBlock.toList := by
          intro h; simp at h; rcases h with h | h
          · omega
          · exact absurd (hlv _ h) (by omega)
        have NIN := Lib.hid nin
        have HLV := Lib.hid hlv
        clear nin
        have HMa := Lib.hid hma
        have HRa := Lib.hid hra
        clear hma hra hlv
        go_region_held3 (fun w' => w'.cell? ⟨wr.heap.size, 0, none⟩ = some (.int .i64 (p k)) ∧ w'.cell? ⟨wr.heap.size, 1, none⟩ = some (.int .i64 (r k)) ∧ w'.cell? ⟨wr.heap.size, 2, none⟩ = some (.int .i64 (d k))) (first | exact ⟨q1, q2, q3⟩ | exact ⟨y1, y2, y3⟩ | go_keep)
          (first
           | (go_at_call 14; refine (set_any b L _ _ _ (by exact HMa.out)).mono ?_; rintro e w2 ⟨rfl, hm2, hC2⟩; have q1 := hC2.cell (p := ⟨wr.heap.size, 0, none⟩) a1 (by simp; omega); have q2 := hC2.cell (p := ⟨wr.heap.size, 1, none⟩) a2 (by simp; omega); have q3 := hC2.cell (p := ⟨wr.heap.size, 2, none⟩) a3 (by simp; omega); have HM2 := Lib.hid hm2; have HC2 := Lib.hid hC2; have HR2 := Lib.hid (hC2.ref (by exact HRa.out) (by simp) (fun x hx => by have := map_ref_ne HMa.out HRa.out; simp at this; simp; rintro rfl; exact this hx)); clear hm2 hC2)
           | (go_at_call 17; refine (rset_any (b + 1) v L _ _ _ (by exact HR2.out) hL).mono ?_; rintro e w3 ⟨rfl, hp3⟩; obtain ⟨v3, hr3, hc3, ho3⟩ := hp3; have nin := NIN.out; have y1 := hc3.cell (p := ⟨wr.heap.size, 0, none⟩) q1 nin; have y2 := hc3.cell (p := ⟨wr.heap.size, 1, none⟩) q2 nin; have y3 := hc3.cell (p := ⟨wr.heap.size, 2, none⟩) q3 nin; clear nin; have HR3 := Lib.hid hr3; have HM3 := Lib.hid (hc3.map (by exact HM2.out) (map_ref_ne HM2.out HR2.out)); have HC3 := Lib.hid hc3; have HO3 := Lib.hid ho3; clear hr3 hc3 ho3))
        have hL3 : (setNew L (p k) (r k)).length ≤ 256 := by obtain ⟨f, _, h⟩ := HM3.out; exact h.le
        go_wp2_with (first | (go_at_call 16; refine (find_any b _ _ _ (by exact HM3.out)).mono ?_; rintro e w4 ⟨rfl, rfl⟩) | (go_at_call 18; refine (rfind_any (b + 1) _ _ _ _ (by exact HR3.out) hL3).mono ?_; rintro e w4 ⟨rfl, rfl⟩))
        go_quiet ((first | (go_at_call 19; exact quiet_here (get_any b _ _ _ (by exact HM3.out))) | (go_at_call 20; exact quiet_here (rget_any (b + 1) _ _ _ _ (by exact HR3.out)))))
        go_wp2_with fail
        generalize hwc : w3.drewN nq = wc
        have hmc : IsMap wc b (setNew L (p k) (r k)) := by rw [← hwc]; exact HM3.out
        have hrc : IsRef wc (b + 1) v3 (setNew L (p k) (r k)) := by rw [← hwc]; exact HR3.out
        have hBc : Below w.heap.size w wc := by
          rw [← hwc]
          have e1 : Below w.heap.size w w2 := (hBa.drew).trans (HC2.out.below (by have := hBa.size; simp; omega) (by simp; omega))
          have e2 : Below w.heap.size w w3 := e1.trans (HC3.out.below e1.size (by intro x hx; simp at hx; rcases hx with hx | hx; omega; exact HV.out x hx))
          exact e2.drewN' _
        have hvc : ∀ x, v3.ownBlock = some x → w.heap.size ≤ x := by
          intro x hx
          rcases HO3.out x hx with h | h
          · exact HV.out x h
          · have := HC2.out.size; have := hBa.size; simp at *; omega
        have hcell := one_cell hrc.1
        obtain ⟨A3, c3, hv3⟩ := hrc.2.form'
        rw [hv3] at hcell
        have HMc := Lib.hid hmc
        have HRc := Lib.hid hrc
        have HVc := Lib.hid hvc
        have HBc := Lib.hid hBc
        clear hwc hmc hrc hvc hBc hv3 a1 a2 a3 q1 q2 q3 y1 y2 y3
        go_quiet ((first | (go_at_call 15; exact quiet_here (pages_any b _ _ (by exact HMc.out)))))
        go_wp2_with fail
        go_roundw
        case measure => simp [intOf]; omega
        case rel => exact ⟨k + 1, v3, _, by go_num, by omega, by omega, HBc.out.drewN' _, HMc.out, HRc.out, hL3, HVc.out⟩
      · have hk' : k = 300 := by omega
        have d3 : decide ((300 : Int) ≤ k) = true := by simp; omega
        clear hk'
        go_wp2
        go_ret
        exact ⟨rfl, HB.out.alloc HB.out.size _⟩
    · have HB := Lib.hid hBr
      clear hz
      go_wp2
      go_ret
      exact ⟨rfl, HB.out⟩
end Go.Proofs.Yteokjaocnemmlaa
