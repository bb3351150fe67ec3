/-
  The walks of package page, over the list of its slots: Room, Slots, Used; bytes.Clone.
-/
import Derived.Test.YteokjaocnemmlaaPage3
namespace Go.Proofs.Yteokjaocnemmlaa
open Go.RowKit

theorem room_nil (w : World) : Calls Try.prog 66 #[.pointer none] w fun e w' => e = .returned (.int .i64 (-1)) ∧ w = w' := by
  go_enter Try.func66, Try.ntmps66
  go_wp2
  go_ret
  exact ⟨rfl, rfl⟩
theorem slots_nil (w : World) : Calls Try.prog 79 #[.pointer none] w fun e w' => e = .returned (.int .i64 0) ∧ w = w' := by
  go_enter Try.func79, Try.ntmps79
  go_wp2
  go_ret
  exact ⟨rfl, rfl⟩

section
variable {p : Nat} {f : Nat → Int} {L : PL} {fr : Nat → Nat} {st : Nat} {w : World}
theorem pslots (h : PG f L fr st) (hp : Lies w p f) :
    Calls Try.prog 79 #[.pointer (some ⟨p, 0, none⟩)] w fun e w' => e = .returned (.int .i64 L.length) ∧ w = w' := by
  obtain ⟨m, hm⟩ : ∃ m, m = L.length := ⟨_, rfl⟩
  have hcnt := pcount p h w hp
  rw [← hm] at hcnt ⊢
  have HC := Lib.hid hcnt
  clear hcnt hm
  go_enter Try.func79, Try.ntmps79
  go_wp2_with (first | (go_at_call 69; refine HC.out.mono ?_; rintro e w' ⟨rfl, rfl⟩))
  go_ret
  exact ⟨rfl, rfl⟩

theorem total_slot {L : PL} {k : Nat} {o : Option Tup} (hk : L[k]? = some o) : total (L.take (k + 1)) = total (L.take k) + slotSize o := by
  have hl := getElem?_lt hk
  rw [total_take_succ L k hl]
  rw [List.getElem?_eq_getElem hl] at hk
  injection hk with hk
  rw [hk]

set_option maxRecDepth 100000 in
set_option maxHeartbeats 2000000 in
theorem proom (h : PG f L fr st) (hp : Lies w p f) :
    Calls Try.prog 66 #[.pointer (some ⟨p, 0, none⟩)] w fun e w' => e = .returned (.int .i64 (room L)) ∧ ∃ n, w' = w.drewN n := by
  obtain ⟨m, hm⟩ : ∃ m, m = L.length := ⟨_, rfl⟩
  obtain ⟨fs, hfs⟩ : ∃ fs, fs = freeSlot L := ⟨_, rfl⟩
  have hcnt := fun (w : World) (hp : Lies w p f) => pcount p h w hp
  have hfree := fun (w : World) (hp : Lies w p f) => pfree h hp
  rw [← hm] at hcnt
  rw [← hfs] at hfree
  have HM := Lib.hid hm
  have HC := Lib.hid hcnt
  have HF := Lib.hid hfree
  have HP := Lib.hid hp
  have hfits := h.fits
  have hm5 : m ≤ 512 := by have := h.lo; have := h.hi; omega
  have htot : total L ≤ 512 := by omega
  have hfin : room L = max (478 - ((4 * m + total L : Nat) : Int) - (if fs = m then 4 else 0)) (-1) := by rw [hfs, hm]; rfl
  have HFIN := Lib.hid hfin
  have hfm : fs ≤ m := by rw [hfs, hm]; exact freeSlot_le L
  have HT := Lib.hid (total_take_le L)
  have HTM : Hid (total (L.take m) = total L) := Lib.hid (by rw [hm, List.take_length])
  clear hm hcnt hp hfree hfs hfin hfits
  go_enter Try.func66, Try.ntmps66
  go_wp2_with (first | (go_at_call 69; refine (HC.out _ (by exact HP.out)).mono ?_; rintro e w' ⟨rfl, rfl⟩))
  go_loopw [3, 9] (fun v i wr => ∃ (k n : Nat), i = .int .i64 k ∧ k ≤ m ∧ v = .int .i64 (478 - (4 * (k : Int) + (total (L.take k) : Int))) ∧ wr = w.drewN n) (fun _ i _ => m - (intOf i).toNat)
  case atStart => exact ⟨0, 0, rfl, by omega, by simp [total_nil], rfl⟩
  case round =>
    obtain ⟨k, n, rfl, hk, rfl, rfl⟩ := hrel
    obtain ⟨T, hT⟩ : ∃ T, T = total (L.take k) := ⟨_, rfl⟩
    have hT5 : T ≤ 512 := by have := HT.out k; omega
    rw [← hT]
    have HTT := Lib.hid hT
    clear hT
    by_cases hlt : k < m
    · rcases slot_cases L k with ⟨t, ht⟩ | ht | ht
      · have hbs := fun (w : World) (hp : Lies w p f) => pbytes_used h hp ht
        obtain ⟨z, hz⟩ : ∃ z, z = t.size := ⟨_, rfl⟩
        have hz5 : z ≤ 512 := by rw [hz]; have := (h.lies k t ht).2; omega
        rw [← hz] at hbs
        have HB := Lib.hid hbs
        have hts := total_slot ht
        rw [show slotSize (some t) = z by rw [hz]; rfl, ← HTT.out] at hts
        have HTS := Lib.hid hts
        clear hbs ht hz hts
        go_wp2_with (first | (go_at_call 73; refine (HB.out _ (by exact HP.out)).mono ?_; rintro e w' ⟨rfl, n2, rfl⟩))
        go_roundw
        case measure => simp [intOf]; omega
        case rel => exact ⟨k + 1, n + n2, by go_num, by omega, by rw [HTS.out]; go_num, rfl⟩
      · have hbs := fun (w : World) (hp : Lies w p f) => pbytes_free h hp ht
        have HB := Lib.hid hbs
        have hts := total_slot ht
        rw [show slotSize none = 0 from rfl, ← HTT.out] at hts
        have HTS := Lib.hid hts
        clear hbs ht hts
        go_wp2_with (first | (go_at_call 73; refine (HB.out _ (by exact HP.out)).mono ?_; rintro e w' ⟨rfl, n2, rfl⟩))
        go_roundw
        case measure => simp [intOf]; omega
        case rel => exact ⟨k + 1, n + n2, by go_num, by omega, by rw [HTS.out]; go_num, rfl⟩
      · have := HM.out; omega
    · have hke : k = m := by omega
      subst hke
      have hTT : T = total L := by rw [HTT.out, HTM.out]
      have HTL := Lib.hid hTT
      clear hTT
      by_cases hfe : fs = k
      · subst hfe
        go_wp2_with (first | (go_at_call 69; refine (HC.out _ (by exact HP.out)).mono ?_; rintro e w' ⟨rfl, rfl⟩) | (go_at_call 67; refine (HF.out _ (by exact HP.out)).mono ?_; rintro e w' ⟨rfl, n2, rfl⟩))
        go_ret
        refine ⟨ret_i ?_, _, rfl⟩
        rw [HFIN.out, HTL.out]
        simp only [if_true]
        congr 1
      · have d : ((fs : Int) == (k : Int)) = false := by simp; omega
        have HFE := Lib.hid hfe
        clear hfe
        go_wp2_with (first | (go_at_call 69; refine (HC.out _ (by exact HP.out)).mono ?_; rintro e w' ⟨rfl, rfl⟩) | (go_at_call 67; refine (HF.out _ (by exact HP.out)).mono ?_; rintro e w' ⟨rfl, n2, rfl⟩))
        go_ret
        refine ⟨ret_i ?_, _, rfl⟩
        rw [HFIN.out, if_neg HFE.out, HTL.out]
        congr 1
        omega

/-- How many versions. -/
def usedN (L : PL) : Nat := L.countP Option.isSome
theorem used_slot {L : PL} {k : Nat} {o : Option Tup} (hk : L[k]? = some o) : usedN (L.take (k + 1)) = usedN (L.take k) + if o.isSome then 1 else 0 := by
  have hl := getElem?_lt hk
  unfold usedN
  rw [List.take_succ_eq_append_getElem hl, List.countP_append]
  rw [List.getElem?_eq_getElem hl] at hk
  injection hk with hk
  rw [hk]
  simp [List.countP_cons]
theorem used_take_le (L : PL) (k : Nat) : usedN (L.take k) ≤ k := by
  unfold usedN
  exact Nat.le_trans List.countP_le_length (by simp; omega)

set_option maxRecDepth 100000 in
set_option maxHeartbeats 2000000 in
theorem pused (h : PG f L fr st) (hp : Lies w p f) :
    Calls Try.prog 62 #[.pointer (some ⟨p, 0, none⟩)] w fun e w' => e = .returned (.int .i64 (usedN L)) ∧ ∃ n, w' = w.drewN n := by
  have neq0 := @run_neq_slice_nil_any Try.prog
  obtain ⟨m, hm⟩ : ∃ m, m = L.length := ⟨_, rfl⟩
  have hcnt := fun (w : World) (hp : Lies w p f) => pslots h hp
  rw [← hm] at hcnt
  have HM := Lib.hid hm
  have HC := Lib.hid hcnt
  have HP := Lib.hid hp
  have hm5 : m ≤ 512 := by have := h.lo; have := h.hi; omega
  have HT := Lib.hid (used_take_le L)
  have HTM : Hid (usedN (L.take m) = usedN L) := Lib.hid (by rw [hm, List.take_length])
  clear hm hcnt hp
  go_enter Try.func62, Try.ntmps62
  go_wp2_with (first | (go_at_call 79; refine (HC.out _ (by exact HP.out)).mono ?_; rintro e w' ⟨rfl, rfl⟩))
  go_loopw [3, 7] (fun v i wr => ∃ (k n : Nat), i = .int .i64 k ∧ k ≤ m ∧ v = .int .i64 (usedN (L.take k)) ∧ wr = w.drewN n) (fun _ i _ => m - (intOf i).toNat)
  case atStart => exact ⟨0, 0, rfl, by omega, by simp [usedN], rfl⟩
  case round =>
    obtain ⟨k, n, rfl, hk, rfl, rfl⟩ := hrel
    obtain ⟨T, hT⟩ : ∃ T, T = usedN (L.take k) := ⟨_, rfl⟩
    have hT5 : T ≤ 512 := by have := HT.out k; omega
    rw [← hT]
    have HTT := Lib.hid hT
    clear hT
    by_cases hlt : k < m
    · rcases slot_cases L k with ⟨t, ht⟩ | ht | ht
      · have hbs := fun (w : World) (hp : Lies w p f) => pbytes_used h hp ht
        have HB := Lib.hid hbs
        have hts := used_slot ht
        rw [← HTT.out] at hts
        have HTS := Lib.hid hts
        clear hbs ht hts
        go_wp2_with (first | (go_at_call 73; refine (HB.out _ (by exact HP.out)).mono ?_; rintro e w' ⟨rfl, n2, rfl⟩))
        go_roundw
        case measure => simp [intOf]; omega
        case rel => exact ⟨k + 1, n + n2, by go_num, by omega, by rw [HTS.out]; rfl, rfl⟩
      · have hbs := fun (w : World) (hp : Lies w p f) => pbytes_free h hp ht
        have HB := Lib.hid hbs
        have hts := used_slot ht
        rw [← HTT.out] at hts
        have HTS := Lib.hid hts
        clear hbs ht hts
        go_wp2_with (first | (go_at_call 73; refine (HB.out _ (by exact HP.out)).mono ?_; rintro e w' ⟨rfl, n2, rfl⟩))
        go_roundw
        case measure => simp [intOf]; omega
        case rel => exact ⟨k + 1, n + n2, by go_num, by omega, by rw [HTS.out]; rfl, rfl⟩
      · have := HM.out; omega
    · have hke : k = m := by omega
      subst hke
      have hTT : T = usedN L := by rw [HTT.out, HTM.out]
      have HTL := Lib.hid hTT
      clear hTT
      go_wp2
      go_ret
      exact ⟨by rw [← HTL.out]; rfl, _, rfl⟩
end

/-! ### bytes.Clone -/
theorem Try.info5 : (Try.prog.info? 5).map (fun i => (i.zero, i.size, i.bytes)) = some (some (.int .u8 0), 1, 1) := by kernel_rfl
theorem El57 : ElTy Try.prog 57 5 1 1 := by
  obtain ⟨i, hi, hz, hs, hb⟩ := info_parts Try.info5
  exact ⟨i, _, Try.underlying57, hi, hz, hs, hb, rfl, by decide⟩
/-- Bytes as cells. -/
def bvals (l : List Int) : List Value := l.map (Value.int .u8)
theorem bvals_one (l : List Int) : ∀ u, u ∈ bvals l → u.oneCell' = true := by
  intro u hu
  obtain ⟨x, _, rfl⟩ := List.mem_map.1 hu
  rfl
/-- A []byte of the call's own: its bytes are l. -/
def IsBytes (w : World) (v : Value) (l : List Int) : Prop := Own w 5 1 v l.length (bvals l)

/-- What a copy leaves: it lies in a new block. -/
def Cloned (w w' : World) (v : Value) (l : List Int) : Prop := IsBytes w' v l ∧ Chg [] w w' ∧ ∀ k, v.ownBlock = some k → w.heap.size ≤ k

set_option maxRecDepth 100000 in
set_option maxHeartbeats 1000000 in
theorem clone_any (b off c : Nat) (l : List Int) (w : World) (hl : l.length ≤ 1000) (hc : ∀ j u, (bvals l)[j]? = some u → w.cell? ⟨b, off + j, none⟩ = some u) :
    Calls Try.prog 83 #[.slice (some ⟨b, off, none⟩) l.length c] w fun e w' => ∃ A c', e = .returned (.slice A l.length c') ∧ Cloned w w' (.slice A l.length c') l := by
  have eq0 := @Lib.run_eql_slice_nil Try.prog
  have own0 : Own (w.alloc (.cells #[] 5)) 5 1 (.slice (some ⟨w.heap.size, 0, none⟩) 0 0) 0 [] := World.ownsRow_lit w #[] 0 (Nat.zero_le _) (by decide) rfl
  have src0 : Src1 (w.alloc (.cells #[] 5)) 1 (.slice (some ⟨b, off, none⟩) l.length c) l.length (bvals l) := by
    refine ⟨by simp [bvals], bvals_one l, .inr ⟨_, _, rfl, fun j u hu => ?_⟩⟩
    have h1 := hc j u hu
    rw [Go.WideShapes.add_plain]
    rwa [World.cell?_alloc_lt _ _ _ (World.block_lt_of_cell? _ _ h1)]
  obtain ⟨m, hm⟩ : ∃ m, m = l.length := ⟨_, rfl⟩
  have key : ∀ A c' w', App (w.alloc (.cells #[] 5)) w' 5 1 (.slice (some ⟨w.heap.size, 0, none⟩) 0 0) (.slice A m c') m (bvals l) → Cloned w w' (.slice A m c') l := by
    intro A c' w' h
    refine ⟨by unfold IsBytes; rw [← hm]; exact h.own, ?_, fun k hk => ?_⟩
    · have := ((Chg.refl [] w).alloc (.cells #[] 5)).trans' h.chg (by simp [Value.ownBlock])
      exact this
    · rcases h.at_ k hk with h1 | h1
      · simp [Value.ownBlock] at h1; omega
      · simp at h1; omega
  rw [← hm] at src0 hl ⊢
  have OWN0 := Lib.hid own0
  have SRC0 := Lib.hid src0
  have KEY := Lib.hid key
  clear own0 src0 key hm hc
  go_enter Try.func83, Try.ntmps83
  go_wp2_with (at_builtin; refine wpList_app rfl (.tmp 5) (.tmp 6) 57 rfl 5 1 1 El57 (.slice (some ⟨w.heap.size, 0, none⟩) 0 0) 0 [] rfl OWN0.out (.slice (some ⟨b, off, none⟩) m c) m (bvals l) rfl SRC0.out m (bvals l) (Nat.zero_add _) rfl (by unfold maxLen; omega) (by omega) ?_; intro A1 c1 w1 a1; have HA := Lib.hid (KEY.out A1 c1 w1 a1); clear a1)
  go_ret
  exact ⟨A1, c1, rfl, HA.out⟩

end Go.Proofs.Yteokjaocnemmlaa
