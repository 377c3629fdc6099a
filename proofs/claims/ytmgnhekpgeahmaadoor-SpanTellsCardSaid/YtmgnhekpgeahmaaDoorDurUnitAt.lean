/- The unit at a place, as the program finds it. -/
import Derived.Test.YtmgnhekpgeahmaaDoorDurUnits
namespace Go.Proofs.YtmgnhekpgeahmaaDoor
open Go.Dur Go.Fl Go.RowKit

def uix (u : Nat × Nat × Nat) : Nat := if u.1 = 0 then 7 else u.2.2 - 1
def unitAtV (i : Nat) (u : Nat × Nat × Nat) : Value := .tuple #[.int .i64 (uix u : Nat), .int .i64 ((i + u.1 : Nat) : Int)]

theorem letter_byte (j : Nat) : ((ByteArray.mk #[(letter j).toUInt8])[0]'(by show 0 < 1; omega)).toNat = letter j := by
  unfold letter
  split <;> rfl

theorem unit_letter (s : ByteArray) {i j : Nat} (hlt : i < s.size) (hj : j < 6) (h : letter j = bt s i) (hns : ¬ (bt s i = 109 ∧ i + 1 < s.size ∧ bt s (i + 1) = 115)) : unitAtV i (unitOf s i) = .tuple #[.int .i64 (j : Int), .int .i64 ((i : Int) + 1)] := by
  have hU := unit_at s hlt
  generalize unitOf s i = u at hU
  match j, hj with
  | 0, _ | 1, _ | 2, _ | 3, _ | 4, _ | 5, _ =>
    simp only [letter] at h
    cases hU <;> first | rfl | omega

theorem unit_none (s : ByteArray) {i : Nat} (hlt : i < s.size) (h : ∀ m, m < 6 → letter m ≠ bt s i) : unitAtV i (unitOf s i) = .tuple #[.int .i64 7, .int .i64 (i : Int)] := by
  have h0 := h 0 (by omega)
  have h1 := h 1 (by omega)
  have h2 := h 2 (by omega)
  have h3 := h 3 (by omega)
  have h4 := h 4 (by omega)
  have h5 := h 5 (by omega)
  simp only [letter] at h0 h1 h2 h3 h4 h5
  have hU := unit_at s hlt
  generalize unitOf s i = u at hU
  cases hU <;> first | rfl | omega

def LetRel (s : ByteArray) (i : Nat) (w : World) (u : Value) (wr : World) : Prop := ∃ j n : Nat, j ≤ 6 ∧ u = .int .i64 (j : Int) ∧ wr = w.drewN n ∧ Hid (∀ m, m < j → letter m ≠ bt s i)

set_option maxHeartbeats 1000000 in
theorem letters_any (s : ByteArray) (i : Nat) (w : World) (hs : s.size ≤ 9223372036854775806) (hlt : i < s.size) (hns : ¬ (bt s i = 109 ∧ i + 1 < s.size ∧ bt s (i + 1) = 115)) : Calls Tryd.prog 43 #[.string s, .int .i64 (i : Int)] w (SameD (unitAtV i (unitOf s i)) w) := by
  have hb := bt_get s hlt
  have Hns := Lib.hid hns
  have key : (((bt s i : Int) == 109) = false) ∨ (((bt s i : Int) == 109) = true ∧ ¬ i + 1 < s.size) ∨ (((bt s i : Int) == 109) = true ∧ i + 1 < s.size ∧ ((bt s (i + 1) : Int) == 115) = false) := by
    by_cases h1 : bt s i = 109
    · by_cases h2 : i + 1 < s.size
      · exact .inr (.inr ⟨eqb h1, h2, neb (fun h => hns ⟨h1, h2, h⟩)⟩)
      · exact .inr (.inl ⟨eqb h1, h2⟩)
    · exact .inl (neb h1)
  clear hns
  rcases key with h109 | ⟨h109, h2⟩ | ⟨h109, h2, h3⟩
  all_goals
    (try have hb2 := bt_get s h2)
    go_enter Tryd.func43, Tryd.ntmps43
    go_wp2_with fail
    go_loopw [6] (LetRel s i w) (fun u _ => 6 - (intOf u).toNat)
    case atStart => exact ⟨0, 0, by omega, rfl, rfl, fun m hm => by omega⟩
    case round =>
      obtain ⟨j, n, hj, rfl, rfl, H⟩ := hrel
      by_cases hj6 : j < 6
      · have hl0 := letter_byte j
        by_cases he : letter j = bt s i
        · have heq := eqb he
          have Hres := Lib.hid (unit_letter s hlt hj6 he Hns.out)
          clear he
          go_wp2_with fail
          go_quiet (first | (go_at_call 21; exact quiet_of_eq2 (name_any _ hj6 _)))
          go_wp2_with fail
          go_ret2
          exact ⟨by rw [Hres.out]; rfl, _, rfl⟩
        · have hne := neb he
          have He := Lib.hid he
          clear he
          go_wp2_with fail
          go_quiet (first | (go_at_call 21; exact quiet_of_eq2 (name_any _ hj6 _)))
          go_wp2_with fail
          go_roundw
          case rel =>
            refine ⟨j + 1, _, by omega, by go_num, rfl, fun m hm => ?_⟩
            by_cases hmj : m = j
            · subst hmj; exact He.out
            · exact H.out m (by omega)
          case measure => simp [intOf]; omega
      · have Hres := Lib.hid (unit_none s hlt (fun m hm => H.out m (by omega)))
        go_wp2_with fail
        go_ret2
        exact ⟨by rw [Hres.out]; rfl, _, rfl⟩

theorem unitAt_any (s : ByteArray) (i : Nat) (w : World) (hs : s.size ≤ 9223372036854775806) : Calls Tryd.prog 43 #[.string s, .int .i64 (i : Int)] w (SameD (unitAtV i (unitOf s i)) w) := by
  by_cases hlt : i < s.size
  · by_cases hms : bt s i = 109 ∧ i + 1 < s.size ∧ bt s (i + 1) = 115
    · obtain ⟨h1, h2, h3⟩ := hms
      have hu : unitOf s i = (2, 1, 7) := by
        have hU := unit_at s hlt
        generalize unitOf s i = u at hU
        cases hU <;> first | rfl | omega
      have hb := bt_get s hlt
      have hb2 := bt_get s h2
      rw [hu]
      clear hu
      go_enter Tryd.func43, Tryd.ntmps43
      go_wp2_with fail
      go_ret2
      exact ⟨rfl, 0, rfl⟩
    · exact letters_any s i w hs hlt hms
  · have hu : unitOf s i = (0, 0, 0) := by unfold unitOf; rw [if_pos (by omega)]
    rw [hu]
    clear hu
    go_enter Tryd.func43, Tryd.ntmps43
    go_wp2_with fail
    go_ret2
    exact ⟨rfl, 0, rfl⟩

end Go.Proofs.YtmgnhekpgeahmaaDoor
