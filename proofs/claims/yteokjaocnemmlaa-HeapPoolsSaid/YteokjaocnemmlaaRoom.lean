/-
  The walks of package room: New, Set, Pages, Find, Get, each by a contract over a list of rooms.
-/
import Derived.Test.YteokjaocnemmlaaRows
import Derived.Test.YteokjaocnemmlaaRoomP
namespace Go.Proofs.Yteokjaocnemmlaa
open Go.RowKit
theorem zero97 : Obj.cells Try.zeroCells97 97 = ints .i64 97 513 (fun _ => 0) := by kernel_rfl
theorem setCell_alloc_ints (w : World) (k : IntKind) (t n : Nat) (f : Nat → Int) (i : Nat) (v : Int) : (w.alloc (ints k t n f)).setCell ⟨w.heap.size, i, none⟩ (.int k v) = w.alloc (ints k t n (upd f i v)) := by
  have h := ints_set (heap_alloc_new w (ints k t n f)) i v
  have hs : ((w.alloc (ints k t n f)).setCell ⟨w.heap.size, i, none⟩ (.int k v)).heap = (w.alloc (ints k t n (upd f i v))).heap := by
    apply Array.ext_getElem?
    intro j
    by_cases hj : j = w.heap.size
    · subst hj; rw [h]; exact (heap_alloc_new w _).symm
    · rw [Below.heap_setCell _ _ _ _ hj]
      show (w.heap.push _)[j]? = (w.heap.push _)[j]?
      rw [Array.getElem?_push, Array.getElem?_push, if_neg hj, if_neg hj]
  exact congrArg (fun h => ({ w with heap := h } : World)) hs

set_option maxRecDepth 100000 in
set_option maxHeartbeats 1000000 in
theorem new_any (w : World) :
    Calls Try.prog 13 #[] w fun e w' => e = .returned (.pointer (some ⟨w.heap.size, 0, none⟩)) ∧ w.alloc (ints .i64 97 513 (newf 512)) = w' := by
  go_enter Try.func13, Try.ntmps13
  go_wp2
  rw [zero97]
  go_loopw [5] (fun i wr => ∃ k : Nat, i = .int .i64 k ∧ k ≤ 512 ∧ wr = w.alloc (ints .i64 97 513 (newf k))) (fun i _ => 512 - (intOf i).toNat)
  case atStart => exact ⟨0, rfl, by omega, by congr 1⟩
  case round =>
    obtain ⟨k, rfl, hk, rfl⟩ := hrel
    have hz := ints_frozen (heap_alloc_new w (ints .i64 97 513 (newf k))) k
    by_cases hlt : k < 512
    · have hc := ints_cell (heap_alloc_new w (ints .i64 97 513 (newf k))) (i := k) (by omega)
      go_wp2
      rw [setCell_alloc_ints]
      go_roundw
      case measure => simp [intOf]; omega
      case rel =>
        refine ⟨k + 1, by go_num, by omega, ?_⟩
        congr 2
        funext j
        simp only [upd, newf]
        split <;> (try split) <;> (try split) <;> omega
    · have : k = 512 := by omega
      subst this
      go_wp2
      go_ret
      exact ⟨rfl, rfl⟩

set_option maxRecDepth 100000 in
set_option maxHeartbeats 1000000 in
theorem set_tree (b p : Nat) (f : Nat → Int) (page : Nat) (room : Int) (w : World) (hb : w.heap[b]? = some (ints .i64 97 513 f)) (hp : f 512 = p) (hT : Tree 0 f) (h0 : page ≤ p) (h1 : page < 256) :
    Calls Try.prog 14 #[.pointer (some ⟨b, 0, none⟩), .int .i64 page, .int .i64 room] w fun e w' => e = .returned (.int .i64 0) ∧ ∃ f', w'.heap[b]? = some (ints .i64 97 513 f') ∧ Chg [b] w w' ∧ f' 512 = max (p : Int) (page + 1) ∧ Tree 0 f' ∧ ∀ j, j < 256 → f' (256 + j) = if j = page then clamp room else f (256 + j) := by
  have hc := ints_cell hb (i := 512) (by omega)
  have hc2 := ints_cell hb (i := 256 + page) (by omega)
  have hz := ints_frozen hb
  rw [hp] at hc
  have HP := Lib.hid hp; clear hp
  have d1 : decide ((page : Int) < 0) = false := by simp
  have d2 : decide ((256 : Int) ≤ page) = false := by simp; omega
  have d3 : decide (p < page) = false := by simp; omega
  go_enter Try.func14, Try.ntmps14
  go_wp2
  generalize hW : (w.setCell _ _).setCell _ _ = w1
  have hb1 : w1.heap[b]? = some (ints .i64 97 513 (upd (upd f 512 (max (p : Int) (page + 1))) (256 + page) (clamp room))) := by
    rw [← hW]; exact ints_set (ints_set hb _ _) _ _
  have hC : Chg [b] w w1 := by rw [← hW]; exact ((Chg.refl _ _).setCell (by simp) _).setCell (by simp) _
  clear hc hc2 hz hW hb
  go_loopw [7] (fun i wr => ∃ (i' : Nat) (f' : Nat → Int), i = .int .i64 i' ∧ 1 ≤ i' ∧ i' < 512 ∧ wr.heap[b]? = some (ints .i64 97 513 f') ∧ Chg [b] w wr ∧ Tree (i' / 2) f' ∧ (∀ j, 256 ≤ j → j < 513 → f' j = upd (upd f 512 (max (p : Int) (page + 1))) (256 + page) (clamp room) j)) (fun i _ => (intOf i).toNat)
  case atStart =>
    refine ⟨256 + page, _, by go_num, by omega, by omega, hb1, hC, ?_, fun _ _ _ => rfl⟩
    intro k k1 k2 k3
    have := hT k k1 k2 (by omega)
    simp only [upd]
    repeat (rw [if_neg (by omega)])
    exact this
  case round =>
    obtain ⟨i, f', rfl, i1, i2, hb', hC', hT', hL⟩ := hrel
    by_cases hi : 1 < i
    · have hz := ints_frozen hb'
      have c1 := ints_cell hb' (i := 2 * (i / 2)) (by omega)
      have c2 := ints_cell hb' (i := 2 * (i / 2) + 1) (by omega)
      have c3 := ints_cell hb' (i := (i / 2)) (by omega)
      go_wp2
      obtain ⟨m, hm⟩ : ∃ m : Nat, m = i / 2 := ⟨_, rfl⟩
      have hmi : (i : Int) / 2 = (m : Int) := by omega
      rw [hmi]
      rw [← hm] at c1 c2 c3
      have hm1 : 1 ≤ m := by omega
      have hm2 : m < 256 := by omega
      have HM := Lib.hid hm
      clear hm hmi
      have e1 : IntKind.i64.wrap (2 * (m : Int)) = 2 * (m : Int) := IntWalk.i64_in _ (by omega)
      have e2 : IntKind.i64.wrap (2 * (m : Int) + 1) = 2 * (m : Int) + 1 := IntWalk.i64_in _ (by omega)
      have e3 : (2 * (m : Int)).toNat = 2 * m := by omega
      have e4 : (2 * (m : Int) + 1).toNat = 2 * m + 1 := by omega
      have l1 : 0 ≤ 2 * (m : Int) := by omega
      have l2 : 0 ≤ 2 * (m : Int) + 1 := by omega
      have l3 : 2 * (m : Int) < 512 := by omega
      have l4 : 2 * (m : Int) + 1 < 512 := by omega
      have l5 : (m : Int) < 512 := by omega
      go_still_tail 21, (by kernel_rfl)
      go_wp2
      go_roundw
      case measure => simp [intOf]; have := HM.out; omega
      case rel =>
        have hm := HM.out
        refine ⟨m, _, rfl, hm1, by omega, ints_set (w := wr.drew) hb' m _, hC'.drew.setCell (by simp) _, ?_, ?_⟩
        · intro k k1 k2 k3
          by_cases hk : k = m
          · subst hk
            rw [upd_same, upd_other _ _ _ (by omega), upd_other _ _ _ (by omega)]
          · rw [upd_other _ _ _ hk, upd_other _ _ _ (by omega), upd_other _ _ _ (by omega)]
            exact hT' k k1 k2 (by omega)
        · intro j j1 j2
          rw [upd_other _ _ _ (by omega)]
          exact hL j j1 j2
    · go_wp2
      go_ret
      have hp := HP.out
      refine ⟨rfl, f', hb', hC', ?_, ?_, ?_⟩
      · rw [hL 512 (by omega) (by omega), upd_other _ _ _ (by omega), upd_same]
      · intro k k1 k2 k3
        exact hT' k k1 k2 (by omega)
      · intro j j1
        rw [hL _ (by omega) (by omega)]
        by_cases hj : j = page
        · subst hj; rw [upd_same, if_pos rfl]
        · rw [upd_other _ _ _ (by omega), upd_other _ _ _ (by omega), if_neg hj]

set_option maxRecDepth 100000 in
set_option maxHeartbeats 1000000 in
theorem set_bad (b : Nat) (page room : Int) (w : World) (h : page < 0 ∨ 256 ≤ page) :
    Calls Try.prog 14 #[.pointer (some ⟨b, 0, none⟩), .int .i64 page, .int .i64 room] w fun e w' => e = .returned (.int .i64 1) ∧ w = w' := by
  by_cases h1 : page < 0
  · go_enter Try.func14, Try.ntmps14
    go_wp2
    go_ret
    exact ⟨rfl, rfl⟩
  · have h2 : 256 ≤ page := by omega
    clear h
    go_enter Try.func14, Try.ntmps14
    go_wp2
    go_ret
    exact ⟨rfl, rfl⟩
set_option maxRecDepth 100000 in
set_option maxHeartbeats 1000000 in
theorem set_form (b p : Nat) (f : Nat → Int) (page room : Int) (w : World) (hb : w.heap[b]? = some (ints .i64 97 513 f)) (hp : f 512 = p) (h0 : (p : Int) < page) (h1 : page < 256) :
    Calls Try.prog 14 #[.pointer (some ⟨b, 0, none⟩), .int .i64 page, .int .i64 room] w fun e w' => e = .returned (.int .i64 3) ∧ w = w' := by
  have hc := ints_cell hb (i := 512) (by omega)
  rw [hp] at hc
  clear hp hb
  have h2 : 0 ≤ page := by omega
  go_enter Try.func14, Try.ntmps14
  go_wp2
  go_ret
  exact ⟨rfl, rfl⟩
set_option maxRecDepth 100000 in
theorem set_nil (page room : Int) (w : World) :
    Calls Try.prog 14 #[.pointer none, .int .i64 page, .int .i64 room] w fun e w' => e = .returned (.int .i64 15) ∧ w = w' := by
  go_enter Try.func14, Try.ntmps14
  go_wp2
  go_ret
  exact ⟨rfl, rfl⟩

/-- (*Map).Set, of whatever page and room. -/
theorem set_any (b : Nat) (L : List Int) (page room : Int) (w : World) (hb : IsMap w b L) :
    Calls Try.prog 14 #[.pointer (some ⟨b, 0, none⟩), .int .i64 page, .int .i64 room] w fun e w' => e = .returned (.int .i64 (setCode L page)) ∧ IsMap w' b (setNew L page room) ∧ Chg [b] w w' := by
  have hb0 := hb
  obtain ⟨f, hf, hm⟩ := hb
  have hle := hm.le
  by_cases h1 : page < 0 ∨ 256 ≤ page
  · have hc : setCode L page = 1 := by unfold setCode; rw [if_pos h1]
    refine (set_bad b page room w h1).mono ?_
    rintro e w' ⟨rfl, rfl⟩
    unfold setNew
    rw [hc, if_neg (by decide)]
    exact ⟨rfl, hb0, Chg.refl _ _⟩
  · by_cases h2 : (L.length : Int) < page
    · have hc : setCode L page = 3 := by unfold setCode; rw [if_neg h1, if_pos h2]
      refine (set_form b L.length f page room w hf hm.pages h2 (by omega)).mono ?_
      rintro e w' ⟨rfl, rfl⟩
      unfold setNew
      rw [hc, if_neg (by decide)]
      exact ⟨rfl, hb0, Chg.refl _ _⟩
    · have hc : setCode L page = 0 := by unfold setCode; rw [if_neg h1, if_neg h2]
      obtain ⟨n, rfl⟩ := Int.eq_ofNat_of_zero_le (show 0 ≤ page by omega)
      refine (set_tree b L.length f n room w hf hm.pages hm.tree (by omega) (by omega)).mono ?_
      rintro e w' ⟨rfl, f', hf', hC, hp', hT', hl'⟩
      unfold setNew
      rw [hc, if_pos rfl]
      exact ⟨rfl, ⟨f', hf', hm.set (by omega) (by omega) hp' hT' hl'⟩, hC⟩

theorem pages_nil (w : World) : Calls Try.prog 15 #[.pointer none] w fun e w' => e = .returned (.int .i64 0) ∧ w = w' := by
  go_enter Try.func15, Try.ntmps15
  go_wp2
  go_ret
  exact ⟨rfl, rfl⟩
theorem pages_any (b : Nat) (L : List Int) (w : World) (hb : IsMap w b L) : Calls Try.prog 15 #[.pointer (some ⟨b, 0, none⟩)] w fun e w' => e = .returned (.int .i64 L.length) ∧ w = w' := by
  obtain ⟨f, hf, hm⟩ := hb
  have hc := ints_cell hf (i := 512) (by omega)
  rw [hm.pages] at hc
  clear hf hm
  go_enter Try.func15, Try.ntmps15
  go_wp2
  go_ret
  exact ⟨rfl, rfl⟩

theorem get_nil (page : Int) (w : World) : Calls Try.prog 19 #[.pointer none, .int .i64 page] w fun e w' => e = .returned (.int .i64 (-1)) ∧ w = w' := by
  go_enter Try.func19, Try.ntmps19
  go_wp2
  go_ret
  exact ⟨rfl, rfl⟩
theorem get_out (b : Nat) (page : Int) (w : World) (h : page < 0 ∨ 256 ≤ page) : Calls Try.prog 19 #[.pointer (some ⟨b, 0, none⟩), .int .i64 page] w fun e w' => e = .returned (.int .i64 (-1)) ∧ w = w' := by
  by_cases h1 : page < 0
  · go_enter Try.func19, Try.ntmps19
    go_wp2
    go_ret
    exact ⟨rfl, rfl⟩
  · have h2 : 256 ≤ page := by omega
    clear h
    go_enter Try.func19, Try.ntmps19
    go_wp2
    go_ret
    exact ⟨rfl, rfl⟩
theorem get_in (b : Nat) (f : Nat → Int) (n : Nat) (w : World) (hb : w.heap[b]? = some (ints .i64 97 513 f)) (h1 : n < 256) :
    Calls Try.prog 19 #[.pointer (some ⟨b, 0, none⟩), .int .i64 n] w fun e w' => e = .returned (.int .i64 (f (256 + n))) ∧ w = w' := by
  have hc := ints_cell hb (i := 256 + n) (by omega)
  clear hb
  go_enter Try.func19, Try.ntmps19
  go_wp2
  go_ret
  exact ⟨rfl, rfl⟩
/-- (*Map).Get, of whatever page. -/
theorem get_any (b : Nat) (L : List Int) (page : Int) (w : World) (hb : IsMap w b L) :
    Calls Try.prog 19 #[.pointer (some ⟨b, 0, none⟩), .int .i64 page] w fun e w' => e = .returned (.int .i64 (getAt L page)) ∧ w = w' := by
  obtain ⟨f, hf, hm⟩ := hb
  by_cases h1 : page < 0 ∨ 256 ≤ page
  · rw [getAt_out hm h1]
    exact get_out b page w h1
  · obtain ⟨n, rfl⟩ := Int.eq_ofNat_of_zero_le (show 0 ≤ page by omega)
    rw [← getAt_of hm n (by omega)]
    exact get_in b f n w hf (by omega)

theorem find_nil (need : Int) (w : World) : Calls Try.prog 16 #[.pointer none, .int .i64 need] w fun e w' => e = .returned (.tuple #[.int .i64 0, .bool false]) ∧ w = w' := by
  go_enter Try.func16, Try.ntmps16
  go_wp2
  go_ret2
  exact ⟨rfl, rfl⟩
theorem find_none (b : Nat) (f : Nat → Int) (need : Int) (w : World) (hb : w.heap[b]? = some (ints .i64 97 513 f)) (h : f 1 < max need 0) : Calls Try.prog 16 #[.pointer (some ⟨b, 0, none⟩), .int .i64 need] w fun e w' => e = .returned (.tuple #[.int .i64 0, .bool false]) ∧ w = w' := by
  have hc := ints_cell hb (i := 1) (by omega)
  obtain ⟨x, hx⟩ : ∃ x, x = max need 0 := ⟨_, rfl⟩
  clear hb
  go_enter Try.func16, Try.ntmps16
  go_wp2
  go_ret2
  exact ⟨rfl, rfl⟩
set_option maxRecDepth 100000 in
set_option maxHeartbeats 1000000 in
theorem find_some (b : Nat) (f : Nat → Int) (need x : Int) (w : World) (hb : w.heap[b]? = some (ints .i64 97 513 f)) (hT : Tree 0 f) (h : x ≤ f 1) (hx : Hid (max need 0 = x)) :
    Calls Try.prog 16 #[.pointer (some ⟨b, 0, none⟩), .int .i64 need] w fun e w' => (∃ j : Nat, e = .returned (.tuple #[.int .i64 j, .bool true]) ∧ j < 256 ∧ x ≤ f (256 + j) ∧ ∀ l, 256 ≤ l → l < 256 + j → f l < x) ∧ w = w' := by
  have hc := ints_cell hb (i := 1) (by omega)
  have d : decide (f 1 < max need 0) = false := by rw [hx.out]; simp; omega
  go_enter Try.func16, Try.ntmps16
  go_wp2
  rw [hx.out]
  clear hx d hc
  go_loop [6] (fun i => ∃ (i' e : Nat), i = .int .i64 i' ∧ 1 ≤ i' ∧ i' < 512 ∧ 256 ≤ i' * 2 ^ e ∧ (i' + 1) * 2 ^ e ≤ 512 ∧ x ≤ f i' ∧ ∀ l, 256 ≤ l → l < i' * 2 ^ e → f l < x) (fun i => 512 - (intOf i).toNat)
  case atStart => exact ⟨1, 8, rfl, by omega, by omega, by omega, by omega, h, fun l h1 h2 => by omega⟩
  case round =>
    obtain ⟨i, e, rfl, i1, i2, i3, i4, hfi, hl⟩ := hrel
    by_cases hlt : i < 256
    · obtain ⟨e, rfl⟩ : ∃ e', e = e' + 1 := ⟨e - 1, by rcases e with _ | e <;> simp at i3 ⊢; omega⟩
      have p0 : 0 < 2 ^ e := Nat.pow_pos (by omega)
      have hk := hT i i1 hlt (by omega)
      have le := tree_le hT e (2 * i)
      rw [Nat.pow_succ] at i3 i4 hl
      have e1 : i * (2 ^ e * 2) = 2 * (i * 2 ^ e) := by rw [← Nat.mul_assoc]; omega
      have e2 : (i + 1) * (2 ^ e * 2) = 2 * (i * 2 ^ e) + 2 * 2 ^ e := by rw [← Nat.mul_assoc, Nat.add_mul]; omega
      have e3 : 2 * i * 2 ^ e = 2 * (i * 2 ^ e) := by rw [Nat.mul_assoc]
      have e4 : (2 * i + 1) * 2 ^ e = 2 * (i * 2 ^ e) + 2 ^ e := by rw [Nat.add_mul, Nat.mul_assoc]; omega
      have e5 : (2 * i + 1 + 1) * 2 ^ e = 2 * (i * 2 ^ e) + 2 * 2 ^ e := by rw [Nat.add_mul, Nat.add_mul, Nat.mul_assoc]; omega
      rw [e1] at i3 hl
      rw [e2] at i4
      rw [e3, e4] at le
      have c1 := ints_cell hb (i := i * 2) (by omega)
      rw [show f (i * 2) = f (2 * i) by rw [Nat.mul_comm]] at c1
      have HE := And.intro (Lib.hid e3) (And.intro (Lib.hid e4) (Lib.hid e5))
      have HK := Lib.hid hk
      have HL := Lib.hid hl
      have HLE := Lib.hid le
      clear hk e1 e2 e3 e4 e5 hl le
      by_cases ht : f (2 * i) < x
      · have d : decide (f (2 * i) < x) = true := by simpa using ht
        go_wp2
        go_round
        case measure => simp [intOf]; omega
        case rel =>
          obtain ⟨e3, e4, e5⟩ := HE
          have e3 := e3.out; have e4 := e4.out; have e5 := e5.out
          refine ⟨2 * i + 1, e, by go_num, by omega, by omega, by rw [e4]; omega, by rw [e5]; omega, by have := HK.out; omega, ?_⟩
          rw [e4]
          intro l l1 l2
          by_cases hl3 : l < 2 * (i * 2 ^ e)
          · exact HL.out l l1 hl3
          · have := HLE.out (by omega) (by omega) l (by omega) (by omega)
            omega
      · have d : decide (f (2 * i) < x) = false := by simpa using ht
        go_wp2
        go_round
        case measure => simp [intOf]; omega
        case rel =>
          obtain ⟨e3, e4, e5⟩ := HE
          have e3 := e3.out; have e4 := e4.out
          refine ⟨2 * i, e, by go_num, by omega, by omega, by rw [e3]; omega, by rw [e4]; omega, by omega, ?_⟩
          rw [e3]
          exact HL.out
    · have hp : 2 ^ e < 2 := by
        have := Nat.mul_le_mul_right (2 ^ e) (show 257 ≤ i + 1 by omega)
        omega
      have he : e = 0 := by
        rcases e with _ | e
        · rfl
        · rw [Nat.pow_succ] at hp; have : 0 < 2 ^ e := Nat.pow_pos (by omega); omega
      subst he
      have HL := Lib.hid hl
      clear hl hp i3 i4
      go_wp2
      go_ret2
      refine ⟨⟨i - 256, ?_, by omega, ?_, ?_⟩, rfl⟩
      · rw [show ((i - 256 : Nat) : Int) = (i : Int) - 256 by omega]; rfl
      · rw [show 256 + (i - 256) = i by omega]; exact hfi
      · intro l l1 l2; exact HL.out l l1 (by omega)
/-- (*Map).Find, of whatever need. -/
theorem find_any (b : Nat) (L : List Int) (need : Int) (w : World) (hb : IsMap w b L) :
    Calls Try.prog 16 #[.pointer (some ⟨b, 0, none⟩), .int .i64 need] w fun e w' => e = .returned (.tuple #[.int .i64 (findPos L need), .bool (findOk L need)]) ∧ w = w' := by
  obtain ⟨f, hf, hm⟩ := hb
  by_cases h : f 1 < max need 0
  · have := findAt_none hm h
    unfold findPos findOk
    rw [this]
    exact find_none b f need w hf h
  · refine (find_some b f need _ w hf hm.tree (by omega) rfl).mono ?_
    rintro e w' ⟨⟨j, rfl, h1, h2, h3⟩, rfl⟩
    unfold findPos findOk
    rw [findAt_some hm h1 h2 h3]
    exact ⟨rfl, rfl⟩

end Go.Proofs.Yteokjaocnemmlaa
