/-
  The walk of lapidaryref06.Find, over a list of rooms.
-/
import Derived.Test.YteokjaocnemmlaaRef6
namespace Go.Proofs.Yteokjaocnemmlaa
open Go.RowKit

theorem rfind_nil (need : Int) (w : World) : Calls Try.prog 18 #[.pointer none, .int .i64 need] w fun e w' => e = .returned (.tuple #[.int .i64 0, .bool false]) ∧ w = w' := by
  go_enter Try.func18, Try.ntmps18
  go_wp2
  go_ret2
  exact ⟨rfl, rfl⟩
set_option maxRecDepth 100000 in
set_option maxHeartbeats 2000000 in
theorem rfind_any (b : Nat) (v : Value) (L : List Int) (need : Int) (w : World) (hb : IsRef w b v L) (hl : L.length ≤ 256) :
    Calls Try.prog 18 #[.pointer (some ⟨b, 0, none⟩), .int .i64 need] w fun e w' => e = .returned (.tuple #[.int .i64 (findPos L need), .bool (findOk L need)]) ∧ w = w' := by
  obtain ⟨hc, ho⟩ := hb
  obtain ⟨A, c, rfl⟩ := ho.form'
  have hcell := one_cell hc
  clear hc
  obtain ⟨m, hm⟩ : ∃ m, m = L.length := ⟨_, rfl⟩
  rw [← hm] at hcell hl ho
  have HM := Lib.hid hm
  clear hm
  have fin : ∀ (i : Nat) (hi : i < L.length), max need 0 ≤ L[i] → (∀ j (hj : j < L.length), j < i → L[j] < max need 0) → findPos L need = i ∧ findOk L need = true := by
    intro i hi h1 h2
    have : findAt L need = some i := by
      unfold findAt
      rw [List.findIdx?_eq_some_iff_getElem]
      exact ⟨hi, by simp; omega, fun k hk => by have := h2 k (by omega) hk; simp; omega⟩
    unfold findPos findOk
    rw [this]
    exact ⟨rfl, rfl⟩
  have fin0 : (∀ j (hj : j < L.length), L[j] < max need 0) → findPos L need = 0 ∧ findOk L need = false := by
    intro h2
    have : findAt L need = none := by
      unfold findAt
      rw [List.findIdx?_eq_none_iff]
      intro x hx
      obtain ⟨j, hj, rfl⟩ := List.mem_iff_getElem.1 hx
      have := h2 j hj
      simp; omega
    unfold findPos findOk
    rw [this]
    exact ⟨rfl, rfl⟩
  have FIN := Lib.hid fin
  have FIN0 := Lib.hid fin0
  clear fin fin0
  have HO := Lib.hid ho
  clear ho
  go_enter Try.func18, Try.ntmps18
  go_wp2
  go_loop [15] (fun i => ∃ k : Nat, i = .int .i64 k ∧ k ≤ m ∧ ∀ j (hj : j < L.length), j < k → L[j] < max need 0) (fun i => m - (intOf i).toNat)
  case atStart => exact ⟨0, rfl, by omega, fun j _ h => by omega⟩
  case round =>
    obtain ⟨k, rfl, hk, hj⟩ := hrel
    have HJ := Lib.hid hj
    clear hj
    by_cases hlt : k < m
    · obtain ⟨g, rfl, hg, hgc, _⟩ := HO.out.at_ hlt
      have hx0 := hgc k _ (getD_nums L k (by rw [← HM.out]; exact hlt))
      obtain ⟨x, hx⟩ : ∃ x, L.getD k (-1) = x := ⟨_, rfl⟩
      rw [hx] at hx0
      have hx' : L[k]'(by rw [← HM.out]; exact hlt) = x := by rw [← hx, getD_lt (by rw [← HM.out]; exact hlt)]
      have HX := Lib.hid hx'
      clear hgc hx hx'
      by_cases t1 : need ≤ x
      · by_cases t2 : 0 ≤ x
        · have d1 : decide (need ≤ x) = true := by simpa using t1
          have d2 : decide (0 ≤ x) = true := by simpa using t2
          go_wp2
          go_ret2
          have := FIN.out k (by rw [← HM.out]; exact hlt) (by rw [HX.out]; omega) HJ.out
          exact ⟨by rw [this.1, this.2]; rfl, rfl⟩
        · have d1 : decide (need ≤ x) = true := by simpa using t1
          have d2 : decide (0 ≤ x) = false := by simpa using t2
          go_wp2
          go_round
          case measure => simp [intOf]; omega
          case rel => exact ⟨k + 1, by go_num, by omega, fun j h1 h2 => by
            by_cases hjk : j = k
            · subst hjk; rw [HX.out]; omega
            · exact HJ.out j h1 (by omega)⟩
      · have d1 : decide (need ≤ x) = false := by simpa using t1
        go_wp2
        go_round
        case measure => simp [intOf]; omega
        case rel => exact ⟨k + 1, by go_num, by omega, fun j h1 h2 => by
            by_cases hjk : j = k
            · subst hjk; rw [HX.out]; omega
            · exact HJ.out j h1 (by omega)⟩
    · go_wp2
      go_ret2
      have := FIN0.out (fun j h1 => HJ.out j h1 (by have := HM.out; omega))
      exact ⟨by rw [this.1, this.2]; rfl, rfl⟩

end Go.Proofs.Yteokjaocnemmlaa
