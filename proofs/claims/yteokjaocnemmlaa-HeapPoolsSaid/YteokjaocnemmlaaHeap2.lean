/-
  The walks of package heap: page, told, Pages, Used.
-/
import Derived.Test.YteokjaocnemmlaaHeap1
namespace Go.Proofs.Yteokjaocnemmlaa
open Go.RowKit

section
variable {w : World} {pl : Nat} {G : HG} {H : List PL}
theorem HeapAt.c0 (h : HeapAt w pl G H) : w.cell? ⟨G.hb, 0, none⟩ = some (.pointer (some ⟨pl, 0, none⟩)) := by rw [cell_of_row w G.hb 0 _ _ _ h.head]; rfl
theorem HeapAt.c1 (h : HeapAt w pl G H) : w.cell? ⟨G.hb, 1, none⟩ = some G.v := by rw [cell_of_row w G.hb 1 _ _ _ h.head]; rfl
theorem HeapAt.c2 (h : HeapAt w pl G H) : w.cell? ⟨G.hb, 2, none⟩ = some (.pointer (some ⟨G.rb, 0, none⟩)) := by rw [cell_of_row w G.hb 2 _ _ _ h.head]; rfl
theorem HeapAt.free (h : HeapAt w pl G H) (i : Nat) : w.frozen? ⟨G.hb, i, none⟩ = false := frozen_of_row w G.hb i _ _ h.head
theorem HeapAt.form (h : HeapAt w pl G H) : ∃ A c, G.v = .slice A H.length c := h.row.form'
theorem HeapAt.at_ (h : HeapAt w pl G H) {i b : Nat} (hb : G.ptrs[i]? = some b) : ∃ g c, G.v = .slice (some ⟨g, 0, none⟩) H.length c ∧ w.cell? ⟨g, i, none⟩ = some (.pointer (some ⟨b, 0, none⟩)) := by
  rcases h.row.2 with ⟨_, h2⟩ | ⟨g, cap, cur, he, _⟩
  · have := h.len
    have := getElem?_lt hb
    omega
  · refine ⟨g, cap, he, ?_⟩
    have := World.ownsRow.cells h.row (by rw [he]; rfl) i (.pointer (some ⟨b, 0, none⟩)) (by rw [List.getElem?_map, hb]; rfl)
    rw [Go.WideShapes.add_plain] at this
    simpa using this

theorem page_nil (n : Int) (w : World) : Calls Try.prog 46 #[.pointer none, .int .i64 n] w fun e w' => e = .returned (.pointer none) ∧ w = w' := by
  go_enter Try.func46, Try.ntmps46
  go_wp2
  go_ret
  exact ⟨rfl, rfl⟩
theorem page_none (h : HeapAt w pl G H) (n : Int) (hn : n < 0 ∨ (H.length : Int) ≤ n) : Calls Try.prog 46 #[ptrV G.hb, .int .i64 n] w fun e w' => e = .returned (.pointer none) ∧ w = w' := by
  unfold ptrV
  obtain ⟨A, c, hv⟩ := h.form
  have c1 := h.c1
  rw [hv] at c1
  obtain ⟨m, hm⟩ : ∃ m, m = H.length := ⟨_, rfl⟩
  rw [← hm] at hn c1
  obtain ⟨hb, hhb⟩ : ∃ hb, hb = G.hb := ⟨_, rfl⟩
  rw [← hhb] at c1 ⊢
  clear h hv hm hhb
  by_cases h0 : n < 0
  · have d0 := decide_eq_true h0
    clear hn h0
    go_enter Try.func46, Try.ntmps46
    go_wp2
    go_ret
    exact ⟨rfl, rfl⟩
  · have d0 := decide_eq_false h0
    have d1 : decide ((m : Int) ≤ n) = true := decide_eq_true (by omega)
    clear hn h0
    go_enter Try.func46, Try.ntmps46
    go_wp2
    go_ret
    exact ⟨rfl, rfl⟩
theorem page_some (h : HeapAt w pl G H) {i b : Nat} (hb : G.ptrs[i]? = some b) : Calls Try.prog 46 #[ptrV G.hb, .int .i64 i] w fun e w' => e = .returned (ptrV b) ∧ w = w' := by
  unfold ptrV
  obtain ⟨g, c, hv, hc⟩ := h.at_ hb
  have c1 := h.c1
  rw [hv] at c1
  have hl := h.len
  have hlt := getElem?_lt hb
  rw [hl] at hlt
  obtain ⟨m, hm⟩ : ∃ m, m = H.length := ⟨_, rfl⟩
  rw [← hm] at c1 hlt
  obtain ⟨hbb, hhb⟩ : ∃ hbb, hbb = G.hb := ⟨_, rfl⟩
  rw [← hhb] at c1 ⊢
  have d1 : decide (m ≤ i) = false := by simp; omega
  have d2 : decide ((m : Int) ≤ (i : Int)) = false := by simp; omega
  clear h hv hm hhb hl hb
  go_enter Try.func46, Try.ntmps46
  go_wp2
  go_ret
  exact ⟨rfl, rfl⟩

theorem pages_heap_nil (w : World) : Calls Try.prog 39 #[.pointer none] w fun e w' => e = .returned (.int .i64 0) ∧ w = w' := by
  go_enter Try.func39, Try.ntmps39
  go_wp2
  go_ret
  exact ⟨rfl, rfl⟩
theorem pages_heap (h : HeapAt w pl G H) : Calls Try.prog 39 #[ptrV G.hb] w fun e w' => e = .returned (.int .i64 H.length) ∧ w = w' := by
  unfold ptrV
  obtain ⟨A, c, hv⟩ := h.form
  have c1 := h.c1
  rw [hv] at c1
  obtain ⟨m, hm⟩ : ∃ m, m = H.length := ⟨_, rfl⟩
  rw [← hm] at c1 ⊢
  obtain ⟨hb, hhb⟩ : ∃ hb, hb = G.hb := ⟨_, rfl⟩
  rw [← hhb] at c1 ⊢
  clear h hv hm hhb
  go_enter Try.func39, Try.ntmps39
  go_wp2
  go_ret
  exact ⟨rfl, rfl⟩
end

/-- told: a page's room, as it is now; the rooms are those of a list R. -/
theorem told_any {w : World} {hb rb n b g m c : Nat} {pv : Value} {R : List Int} {L : PL} (c1 : w.cell? ⟨hb, 1, none⟩ = some (.slice (some ⟨g, 0, none⟩) m c)) (c2 : w.cell? ⟨hb, 2, none⟩ = some (.pointer (some ⟨rb, 0, none⟩)))
    (hn : n < m) (hg : w.cell? ⟨g, n, none⟩ = some (.pointer (some ⟨b, 0, none⟩))) (hpv : pv = ptrV hb) (hne1 : hb ≠ rb) (hne2 : g ≠ rb) (hp : PageAt w b L) (hR : IsMap w rb R) :
    Calls Try.prog 45 #[pv, .int .i64 n] w fun e w' => e = .returned (.tuple #[]) ∧ IsMap w' rb (setNew R n (room L)) ∧ Chg [rb] w w' := by
  subst hpv
  unfold ptrV
  obtain ⟨f, fr, st, hl, hpg⟩ := hp
  obtain ⟨rm, hrm⟩ : ∃ rm, rm = room L := ⟨_, rfl⟩
  have hroom := fun (w : World) (hl : Lies w b f) => proom hpg hl
  rw [← hrm] at hroom ⊢
  have HR := Lib.hid hroom
  have HL := Lib.hid hl
  have HM := Lib.hid hR
  clear hl hpg hroom hR hrm
  go_enter Try.func45, Try.ntmps45
  go_region_held3 (fun w' => w'.cell? ⟨hb, 1, none⟩ = some (.slice (some ⟨g, 0, none⟩) m c) ∧ w'.cell? ⟨hb, 2, none⟩ = some (.pointer (some ⟨rb, 0, none⟩)) ∧ w'.cell? ⟨g, n, none⟩ = some (.pointer (some ⟨b, 0, none⟩))) (first | exact ⟨c1, c2, hg⟩ | exact ⟨y1, y2, y3⟩ | go_keep)
    (first
     | (go_at_call 66; refine (HR.out _ (by exact HL.out)).mono ?_; rintro e w1 ⟨rfl, n1, rfl⟩)
     | (go_at_call 14; refine (set_any rb R n rm _ (by exact HM.out)).mono ?_; rintro e w2 ⟨rfl, hm2, hC2⟩; have y1 := hC2.cell (p := ⟨hb, 1, none⟩) (by exact c1) (by simpa using hne1); have y2 := hC2.cell (p := ⟨hb, 2, none⟩) (by exact c2) (by simpa using hne1); have y3 := hC2.cell (p := ⟨g, n, none⟩) (by exact hg) (by simpa using hne2); have HM2 := Lib.hid hm2; have HC2 := Lib.hid hC2; clear hm2 hC2))
  go_end0
  exact ⟨rfl, HM2.out, Chg.trans ((Chg.refl _ w).drewN _) HC2.out⟩
end Go.Proofs.Yteokjaocnemmlaa
