/- The calendar's small functions: what they answer. -/
import Derived.Test.YtmgnhekpgeahmaaDoorStep
import Derived.Test.YtmgnhekpgeahmaaDoorArith
import Derived.Test.YtmgnhekpgeahmaaDoorProg
import Derived.KernelRfl
import Derived.Lib.Hide
namespace Go.Proofs.YtmgnhekpgeahmaaDoor
open Go.Fl Go.Rel Go.RowKit

def leapB (y : Int) : Bool := (y.tmod 4 == 0) && ((y.tmod 100 != 0) || (y.tmod 400 == 0))
def mdays (y m : Int) : Int := if m = 4 ∨ m = 6 ∨ m = 9 ∨ m = 11 then 30 else if m = 2 then (if leapB y then 29 else 28) else 31

theorem within_any (n lo hi : Int) (w : World) : Calls Tryd.prog 36 #[.int .i64 n, .int .i64 lo, .int .i64 hi] w fun e w' => e = .returned (.bool (decide (lo ≤ n) && decide (n ≤ hi))) ∧ w = w' := by
  by_cases h : lo ≤ n
  · go_enter Tryd.func36, Tryd.ntmps36
    go_wp2
    go_ret
    exact ⟨ret_bool (by simp [h]), rfl⟩
  · have hd : decide (lo ≤ n) = false := by simpa using h
    go_enter Tryd.func36, Tryd.ntmps36
    go_wp2
    go_ret
    exact ⟨ret_bool (by simp), rfl⟩

theorem leap_any (y : Int) (w : World) : Calls Tryd.prog 39 #[.int .i64 y] w fun e w' => e = .returned (.bool (leapB y)) ∧ w = w' := by
  cases h4 : (y.tmod 4 == 0) <;> cases h100 : (y.tmod 100 != 0) <;> cases h400 : (y.tmod 400 == 0)
  all_goals
    have hs : leapB y = ((y.tmod 4 == 0) && ((y.tmod 100 != 0) || (y.tmod 400 == 0))) := rfl
    rw [h4, h100, h400] at hs
    have Hs := Lib.hid hs
    clear hs
    go_enter Tryd.func39, Tryd.ntmps39
    go_wp2
    go_ret
    exact ⟨ret_bool Hs.out.symm, rfl⟩

theorem mdays_any (y m : Int) (w : World) : Calls Tryd.prog 25 #[.int .i64 y, .int .i64 m] w fun e w' => e = .returned (.int .i64 (mdays y m)) ∧ w = w' := by
  by_cases h : m = 4 ∨ m = 6 ∨ m = 9 ∨ m = 11
  · have Hs : Hid (mdays y m = 30) := by show _ = _; unfold mdays; rw [if_pos h]
    rcases h with rfl | rfl | rfl | rfl
    all_goals
      go_enter Tryd.func25, Tryd.ntmps25
      go_wp2
      go_ret
      exact ⟨ret_int Hs.out.symm, rfl⟩
  · by_cases h2 : m = 2
    · subst h2
      cases hl : leapB y
      all_goals
        have Hs : Hid (mdays y 2 = if leapB y = true then 29 else 28) := rfl
        have Hl := Lib.hid hl
        clear hl
        go_enter Tryd.func25, Tryd.ntmps25
        go_wp2_with (go_at_call 39; refine (leap_any _ _).mono ?_; rintro e w' ⟨rfl, rfl⟩; rw [Hl.out])
        go_ret
        exact ⟨ret_int (by rw [Hs.out, Hl.out]; rfl), rfl⟩
    · have Hs : Hid (mdays y m = 31) := by show _ = _; unfold mdays; rw [if_neg h, if_neg h2]
      have h4 : (m == 4) = false := by simp; omega
      have h6 : (m == 6) = false := by simp; omega
      have h9 : (m == 9) = false := by simp; omega
      have h11 : (m == 11) = false := by simp; omega
      have hh2 : (m == 2) = false := by simp; omega
      clear h h2
      go_enter Tryd.func25, Tryd.ntmps25
      go_wp2
      go_ret
      exact ⟨ret_int Hs.out.symm, rfl⟩

theorem floorDiv_any (a b : Int) (hb : 0 < b) (ha : -9223372036854775808 ≤ a) (ha' : a ≤ 9223372036854775807) (hb' : b ≤ 9223372036854775807) (w : World) :
    Calls Tryd.prog 24 #[.int .i64 a, .int .i64 b] w fun e w' => e = .returned (.tuple #[.int .i64 (a / b), .int .i64 (a % b)]) ∧ ∃ n, w' = w.drewN n := by
  have hb0 : (b == 0) = false := by simp; omega
  have b1 := Ar.ediv_bounds a b hb
  have r1 := Int.emod_nonneg a (show b ≠ 0 by omega)
  have r2 := Int.emod_lt_of_pos a hb
  by_cases h : 0 ≤ a
  · have b2 := b1.1 h
    clear b1
    go_enter Tryd.func24, Tryd.ntmps24
    go_wp2_with fail
    go_quiet (fail)
    go_wp2_with fail
    go_ret2
    exact ⟨rfl, _, rfl⟩
  · have b2 := b1.2 (by omega)
    clear b1
    rcases Ar.tdiv_cases a b (by omega) hb with ⟨t1, t2, t3⟩ | ⟨t1, t2, t3⟩
    · have T2 := Lib.hid t2
      have T3 := Lib.hid t3
      have t4 : a ≤ a.tdiv b - 1 := by omega
      have t5 : a.tdiv b - 1 < 0 := by omega
      have t6 : 0 ≤ a.tmod b + b := by omega
      have t7 : a.tmod b + b < b := by omega
      clear t2 t3 b2 r1 r2
      go_enter Tryd.func24, Tryd.ntmps24
      go_wp2_with fail
      go_quiet (fail)
      go_wp2_with fail
      go_ret2
      exact ⟨ret_int2 T2.out.symm T3.out.symm, _, rfl⟩
    · have T2 := Lib.hid t2
      have T3 := Lib.hid t3
      have T1 := Lib.hid t1
      have t4 : 0 ≤ a.tmod b := by omega
      clear t1 t2 t3 b2 r1 r2
      go_enter Tryd.func24, Tryd.ntmps24
      go_wp2_with fail
      go_quiet (fail)
      go_wp2_with fail
      go_ret2
      exact ⟨ret_int2 T2.out.symm (by rw [T1.out, T3.out]), _, rfl⟩

def doyM (m : Int) : Int := (153 * (m - 3) + 2) / 5
def dayNum (y m d : Int) : Int :=
  let y' := if m ≤ 2 then y - 1 else y
  let m' := if m ≤ 2 then m + 12 else m
  y' / 400 * 146097 + y' % 400 * 365 + y' % 400 / 4 - y' % 400 / 100 + (doyM m' + d - 1) - 719468

theorem dayNumber_any (y m d : Int) (hy : -1000000000 ≤ y) (hy' : y ≤ 1000000000) (hm : 1 ≤ m) (hm' : m ≤ 12) (hd : -1000000 ≤ d) (hd' : d ≤ 1000000) (w : World) :
    Calls Tryd.prog 26 #[.int .i64 y, .int .i64 m, .int .i64 d] w fun e w' => e = .returned (.int .i64 (dayNum y m d)) ∧ ∃ n, w' = w.drewN n := by
  by_cases h : m ≤ 2
  · have Hs : Hid (dayNum y m d = (y - 1) / 400 * 146097 + (y - 1) % 400 * 365 + (y - 1) % 400 / 4 - (y - 1) % 400 / 100 + ((153 * (m + 12 - 3) + 2) / 5 + d - 1) - 719468) := by
      show _ = _
      unfold dayNum doyM
      simp only [if_pos h]
    have q1 : -2500002 ≤ (y - 1) / 400 := by omega
    have q2 : (y - 1) / 400 ≤ 2500002 := by omega
    have r1 : 0 ≤ (y - 1) % 400 := by omega
    have r2 : (y - 1) % 400 < 400 := by omega
    go_enter Tryd.func26, Tryd.ntmps26
    go_wp2_with (go_at_call 24; refine (floorDiv_any _ _ (by omega) (by omega) (by omega) (by omega) _).mono ?_; rintro e w' ⟨rfl, n, rfl⟩)
    go_ret
    exact ⟨ret_int (by rw [Hs.out]), _, rfl⟩
  · have Hs : Hid (dayNum y m d = y / 400 * 146097 + y % 400 * 365 + y % 400 / 4 - y % 400 / 100 + ((153 * (m - 3) + 2) / 5 + d - 1) - 719468) := by
      show _ = _
      unfold dayNum doyM
      simp only [if_neg h]
    have q1 : -2500002 ≤ y / 400 := by omega
    have q2 : y / 400 ≤ 2500002 := by omega
    have r1 : 0 ≤ y % 400 := by omega
    have r2 : y % 400 < 400 := by omega
    go_enter Tryd.func26, Tryd.ntmps26
    go_wp2_with (go_at_call 24; refine (floorDiv_any _ _ (by omega) (by omega) (by omega) (by omega) _).mono ?_; rintro e w' ⟨rfl, n, rfl⟩)
    go_ret
    exact ⟨ret_int (by rw [Hs.out]), _, rfl⟩

end Go.Proofs.YtmgnhekpgeahmaaDoor
