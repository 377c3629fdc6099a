/- weirref03's calendar: what it answers. -/
import Derived.Test.YtmgnhekpgeahmaaDoorCal
import Derived.Deep.QuietTactic
import Derived.BigQuiet
namespace Go.Proofs.YtmgnhekpgeahmaaDoor
open Go.Fl Go.Rel Go.RowKit

theorem leap_alt (y : Int) : (((y.tmod 4 == 0) && (y.tmod 100 != 0)) || (y.tmod 400 == 0)) = leapB y := by
  have h4 := Ar.tmod_zero_iff y 4
  have h400 := Ar.tmod_zero_iff y 400
  unfold leapB
  by_cases a : y.tmod 400 = 0
  · have h : y.tmod 4 = 0 := by rw [h4]; rw [h400] at a; omega
    simp [a, h]
  · have h : (y.tmod 400 == 0) = false := by simpa using a
    rw [h]; simp

theorem refleap_any (y : Int) (w : World) : Calls Tryd.prog 41 #[.int .i64 y] w fun e w' => e = .returned (.bool (leapB y)) ∧ w = w' := by
  cases h4 : (y.tmod 4 == 0) <;> cases h100 : (y.tmod 100 != 0) <;> cases h400 : (y.tmod 400 == 0)
  all_goals
    have hs := leap_alt y
    rw [h4, h100, h400] at hs
    have Hs := Lib.hid hs
    clear hs
    go_enter Tryd.func41, Tryd.ntmps41
    go_wp2
    go_ret
    exact ⟨ret_bool Hs.out, rfl⟩

def ydays (y : Int) : Int := if leapB y then 366 else 365

theorem ydays_any (y : Int) (w : World) : Calls Tryd.prog 31 #[.int .i64 y] w fun e w' => e = .returned (.int .i64 (ydays y)) ∧ w = w' := by
  cases hl : leapB y
  all_goals
    have Hs : Hid (ydays y = if leapB y = true then 366 else 365) := rfl
    have Hl := Lib.hid hl
    clear hl
    go_enter Tryd.func31, Tryd.ntmps31
    go_wp2_with (go_at_call 41; refine (refleap_any _ _).mono ?_; rintro e w' ⟨rfl, rfl⟩; rw [Hl.out])
    go_ret
    exact ⟨ret_int (by rw [Hs.out, Hl.out]; rfl), rfl⟩

theorem ydays_bd (y : Int) : 365 ≤ ydays y ∧ ydays y ≤ 366 := by unfold ydays; split <;> omega
theorem mdays_feb (y : Int) : mdays y 2 = ydays y - 337 := by
  unfold mdays ydays
  rw [if_neg (by omega), if_pos rfl]
  split <;> rfl

theorem refmdays_any (y m : Int) (w : World) : Calls Tryd.prog 32 #[.int .i64 y, .int .i64 m] w fun e w' => e = .returned (.int .i64 (mdays y m)) ∧ w = w' := by
  by_cases h : m = 4 ∨ m = 6 ∨ m = 9 ∨ m = 11
  · have Hs : Hid (mdays y m = 30) := by show _ = _; unfold mdays; rw [if_pos h]
    rcases h with rfl | rfl | rfl | rfl
    all_goals
      go_enter Tryd.func32, Tryd.ntmps32
      go_wp2
      go_ret
      exact ⟨ret_int Hs.out.symm, rfl⟩
  · by_cases h2 : m = 2
    · subst h2
      have hb := ydays_bd y
      have Hs := Lib.hid (mdays_feb y)
      go_enter Tryd.func32, Tryd.ntmps32
      go_wp2_with (go_at_call 31; refine (ydays_any _ _).mono ?_; rintro e w' ⟨rfl, rfl⟩)
      go_ret
      exact ⟨ret_int Hs.out.symm, rfl⟩
    · have Hs : Hid (mdays y m = 31) := by show _ = _; unfold mdays; rw [if_neg h, if_neg h2]
      have h4 : (m == 4) = false := by simp; omega
      have h6 : (m == 6) = false := by simp; omega
      have h9 : (m == 9) = false := by simp; omega
      have h11 : (m == 11) = false := by simp; omega
      have hh2 : (m == 2) = false := by simp; omega
      clear h h2
      go_enter Tryd.func32, Tryd.ntmps32
      go_wp2
      go_ret
      exact ⟨ret_int Hs.out.symm, rfl⟩

/-- The days of the first k years, less those up to 1970. -/
def bef : Nat → Int
  | 0 => -719528
  | k + 1 => bef k + ydays k

theorem bef_bd (k : Nat) : -719528 + 365 * (k : Int) ≤ bef k ∧ bef k ≤ -719528 + 366 * (k : Int) := by
  induction k with
  | zero => simp [bef]
  | succ k ih => have := ydays_bd k; simp only [bef]; omega

/-- The months of the year ahead of month k + 1. -/
def mcum (y : Int) : Nat → Int
  | 0 => 0
  | k + 1 => mcum y k + mdays y ((k : Int) + 1)

theorem mdays_bd' (y m : Int) : 28 ≤ mdays y m ∧ mdays y m ≤ 31 := by
  unfold mdays; split <;> (try split) <;> (try split) <;> omega
theorem mcum_bd (y : Int) (k : Nat) : 0 ≤ mcum y k ∧ mcum y k ≤ 31 * (k : Int) := by
  induction k with
  | zero => simp [mcum]
  | succ k ih => have := mdays_bd' y ((k : Int) + 1); simp only [mcum]; omega

def RRet (n e : Int) (w : World) (en : Ending) (w' : World) : Prop := en = .returned (.tuple #[.int .i64 n, .int .i64 e]) ∧ Below w.heap.size w w'
def refVal (y : Nat) (mo : Nat) (d h mi s ms : Int) : Int := (bef y + d - 1 + mcum y (mo - 1)) * 86400000 + h * 3600000 + mi * 60000 + s * 1000 + ms

end Go.Proofs.YtmgnhekpgeahmaaDoor
