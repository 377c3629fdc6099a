/- The calendar by formula is the calendar by counting. -/
import Derived.Test.YtmgnhekpgeahmaaDoorRefMoment
import Derived.Test.YtmgnhekpgeahmaaDoorMoment
namespace Go.Proofs.YtmgnhekpgeahmaaDoor
open Go.Fl Go.Rel Go.RowKit

theorem leap_iff (y : Int) : leapB y = true ↔ (y % 4 = 0 ∧ (y % 100 ≠ 0 ∨ y % 400 = 0)) := by
  unfold leapB
  simp only [Bool.and_eq_true, Bool.or_eq_true, beq_iff_eq, bne_iff_ne, ne_eq, Ar.tmod_zero_iff]

theorem ydays_cases (y : Int) : (y % 4 = 0 ∧ (y % 100 ≠ 0 ∨ y % 400 = 0) ∧ ydays y = 366) ∨ (¬ (y % 4 = 0 ∧ (y % 100 ≠ 0 ∨ y % 400 = 0)) ∧ ydays y = 365) := by
  unfold ydays
  by_cases h : leapB y = true
  · rw [if_pos h]; have := (leap_iff y).1 h; exact .inl ⟨this.1, this.2, rfl⟩
  · rw [if_neg h]; exact .inr ⟨fun h' => h ((leap_iff y).2 h'), rfl⟩

theorem dayNum_year (y : Int) : dayNum (y + 1) 1 1 = dayNum y 1 1 + ydays y := by
  have h := ydays_cases y
  unfold dayNum doyM
  simp only [if_pos (show (1 : Int) ≤ 2 by omega)]
  rcases h with ⟨h1, h2, h3⟩ | ⟨h1, h2⟩
  · rw [h3]; omega
  · rw [h2]; omega

theorem dayNum_bef (k : Nat) : dayNum k 1 1 = bef k := by
  induction k with
  | zero => decide +kernel
  | succ k ih => rw [bef, ← ih]; exact dayNum_year k

theorem dayNum_day (y m d e : Int) : dayNum y m (d + e) = dayNum y m d + e := by
  unfold dayNum; dsimp only; omega

theorem mdays_at (y m : Int) (h1 : 1 ≤ m) (h2 : m ≤ 12) : (m = 2 ∧ mdays y m = ydays y - 337) ∨ ((m = 4 ∨ m = 6 ∨ m = 9 ∨ m = 11) ∧ mdays y m = 30) ∨ ((m = 1 ∨ m = 3 ∨ m = 5 ∨ m = 7 ∨ m = 8 ∨ m = 10 ∨ m = 12) ∧ mdays y m = 31) := by
  by_cases h : m = 2
  · subst h; exact .inl ⟨rfl, mdays_feb y⟩
  · by_cases h4 : m = 4 ∨ m = 6 ∨ m = 9 ∨ m = 11
    · exact .inr (.inl ⟨h4, by unfold mdays; rw [if_pos h4]⟩)
    · exact .inr (.inr ⟨by omega, by unfold mdays; rw [if_neg h4, if_neg h]⟩)

theorem dayNum_month (y m d : Int) (h1 : 1 ≤ m) (h2 : m ≤ 11) : dayNum y (m + 1) d = dayNum y m d + mdays y m := by
  rcases mdays_at y m h1 (by omega) with ⟨rfl, h⟩ | ⟨hm, h⟩ | ⟨hm, h⟩
  · rw [h]
    have hy := ydays_cases y
    unfold dayNum doyM
    simp only [if_pos (show (2 : Int) ≤ 2 by omega), if_neg (show ¬ (2 + 1 : Int) ≤ 2 by omega)]
    rcases hy with ⟨h1, h2, h3⟩ | ⟨h1, h2⟩
    · rw [h3]; omega
    · rw [h2]; omega
  · rw [h]
    unfold dayNum doyM
    rcases hm with rfl | rfl | rfl | rfl <;> simp <;> omega
  · rw [h]
    unfold dayNum doyM
    rcases hm with rfl | rfl | rfl | rfl | rfl | rfl | rfl <;> simp <;> omega

theorem dayNum_cum (y d : Int) (k : Nat) (hk : k ≤ 11) : dayNum y ((k : Int) + 1) d = dayNum y 1 d + mcum y k := by
  induction k with
  | zero => simp [mcum]
  | succ k ih =>
    have := dayNum_month y ((k : Int) + 1) d (by omega) (by omega)
    rw [show ((k + 1 : Nat) : Int) + 1 = (k : Int) + 1 + 1 by omega, this, ih (by omega), mcum]
    omega

/-- THE CALENDAR'S LAW. -/
theorem dayNum_eq (y mo : Nat) (d : Int) (h1 : 1 ≤ mo) (h2 : mo ≤ 12) : dayNum y mo d = bef y + d - 1 + mcum y (mo - 1) := by
  have h := dayNum_cum y d (mo - 1) (by omega)
  rw [show ((mo - 1 : Nat) : Int) + 1 = (mo : Int) by omega] at h
  have h' := dayNum_day y 1 1 (d - 1)
  rw [show (1 : Int) + (d - 1) = d by omega, dayNum_bef] at h'
  omega

theorem momVal_eq (y mo : Nat) (d h mi s ms : Int) (h1 : 1 ≤ mo) (h2 : mo ≤ 12) : momVal y mo d h mi s ms = refVal y mo d h mi s ms := by
  unfold momVal refVal
  rw [dayNum_eq y mo d h1 h2]
  omega

end Go.Proofs.YtmgnhekpgeahmaaDoor
