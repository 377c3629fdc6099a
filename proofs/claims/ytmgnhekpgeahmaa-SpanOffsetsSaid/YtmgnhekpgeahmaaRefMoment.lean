/- weirref03's calendar: what it answers. -/
import Derived.Test.YtmgnhekpgeahmaaCal
import Derived.Deep.QuietTactic
import Derived.BigQuiet
namespace Go.Proofs.Ytmgnhekpgeahmaa
open Go.Fl Go.Rel Go.RowKit

theorem leap_alt (y : Int) : (((y.tmod 4 == 0) && (y.tmod 100 != 0)) || (y.tmod 400 == 0)) = leapB y := by
  have h4 := Ar.tmod_zero_iff y 4
  have h400 := Ar.tmod_zero_iff y 400
  unfold leapB
  by_cases a : y.tmod 400 = 0
  · have h : y.tmod 4 = 0 := by rw [h4]; rw [h400] at a; omega
    simp [a, h]
  · have h : (y.tmod 400 == 0) = false := by simpa using a
    rw [h]; simp

theorem refleap_any (y : Int) (w : World) : Calls Try.prog 60 #[.int .i64 y] w fun e w' => e = .returned (.bool (leapB y)) ∧ w = w' := by
  cases h4 : (y.tmod 4 == 0) <;> cases h100 : (y.tmod 100 != 0) <;> cases h400 : (y.tmod 400 == 0)
  all_goals
    have hs := leap_alt y
    rw [h4, h100, h400] at hs
    have Hs := Lib.hid hs
    clear hs
    go_enter Try.func60, Try.ntmps60
    go_wp2
    go_ret
    exact ⟨ret_bool Hs.out, rfl⟩

def ydays (y : Int) : Int := if leapB y then 366 else 365

theorem ydays_any (y : Int) (w : World) : Calls Try.prog 43 #[.int .i64 y] w fun e w' => e = .returned (.int .i64 (ydays y)) ∧ w = w' := by
  cases hl : leapB y
  all_goals
    have Hs : Hid (ydays y = if leapB y = true then 366 else 365) := rfl
    have Hl := Lib.hid hl
    clear hl
    go_enter Try.func43, Try.ntmps43
    go_wp2_with (go_at_call 60; refine (refleap_any _ _).mono ?_; rintro e w' ⟨rfl, rfl⟩; rw [Hl.out])
    go_ret
    exact ⟨ret_int (by rw [Hs.out, Hl.out]; rfl), rfl⟩

theorem ydays_bd (y : Int) : 365 ≤ ydays y ∧ ydays y ≤ 366 := by unfold ydays; split <;> omega
theorem mdays_feb (y : Int) : mdays y 2 = ydays y - 337 := by
  unfold mdays ydays
  rw [if_neg (by omega), if_pos rfl]
  split <;> rfl

theorem refmdays_any (y m : Int) (w : World) : Calls Try.prog 27 #[.int .i64 y, .int .i64 m] w fun e w' => e = .returned (.int .i64 (mdays y m)) ∧ w = w' := by
  by_cases h : m = 4 ∨ m = 6 ∨ m = 9 ∨ m = 11
  · have Hs : Hid (mdays y m = 30) := by show _ = _; unfold mdays; rw [if_pos h]
    rcases h with rfl | rfl | rfl | rfl
    all_goals
      go_enter Try.func27, Try.ntmps27
      go_wp2
      go_ret
      exact ⟨ret_int Hs.out.symm, rfl⟩
  · by_cases h2 : m = 2
    · subst h2
      have hb := ydays_bd y
      have Hs := Lib.hid (mdays_feb y)
      go_enter Try.func27, Try.ntmps27
      go_wp2_with (go_at_call 43; refine (ydays_any _ _).mono ?_; rintro e w' ⟨rfl, rfl⟩)
      go_ret
      exact ⟨ret_int Hs.out.symm, rfl⟩
    · have Hs : Hid (mdays y m = 31) := by show _ = _; unfold mdays; rw [if_neg h, if_neg h2]
      have h4 : (m == 4) = false := by simp; omega
      have h6 : (m == 6) = false := by simp; omega
      have h9 : (m == 9) = false := by simp; omega
      have h11 : (m == 11) = false := by simp; omega
      have hh2 : (m == 2) = false := by simp; omega
      clear h h2
      go_enter Try.func27, Try.ntmps27
      go_wp2
      go_ret
      exact ⟨ret_int Hs.out.symm, rfl⟩

/-- The days of the first k years, less those up to 1970. -/
def bef : Nat → Int
  | 0 => -719528
  | k + 1 => bef k + ydays k

theorem bef_bd (k : Nat) : -719528 + 365 * (k : Int) ≤ bef k ∧ bef k ≤ -719528 + 366 * (k : Int) := by
  induction k with
  | zero => simp [bef]
  | succ k ih => have := ydays_bd k; simp only [bef]; omega

theorem before_any (n : Nat) (hn : n ≤ 9999) (w : World) : Calls Try.prog 28 #[.int .i64 n] w fun e w' => e = .returned (.int .i64 (bef n)) ∧ w = w' := by
  go_enter Try.func28, Try.ntmps28
  go_wp2_with fail
  go_loop [3, 4] (fun t i => ∃ k : Nat, k ≤ n ∧ i = .int .i64 k ∧ t = .int .i64 (bef k)) (fun _ i => n - (intOf i).toNat)
  case atStart => exact ⟨0, Nat.zero_le _, rfl, rfl⟩
  case round =>
    obtain ⟨k, hk, rfl, rfl⟩ := hrel
    have b1 := bef_bd k
    have b2 := ydays_bd k
    have Hb : Hid (bef (k + 1) = bef k + ydays k) := rfl
    by_cases hlt : k < n
    · go_wp2_with (go_at_call 43; refine (ydays_any _ _).mono ?_; rintro e w' ⟨rfl, rfl⟩)
      go_round
      case rel => exact ⟨k + 1, by omega, by go_num, by rw [Hb.out]⟩
      case measure => simp [intOf]; omega
    · have : k = n := by omega
      subst this
      go_wp2_with fail
      go_ret
      exact ⟨rfl, rfl⟩

/-- The months of the year ahead of month k + 1. -/
def mcum (y : Int) : Nat → Int
  | 0 => 0
  | k + 1 => mcum y k + mdays y ((k : Int) + 1)

theorem mdays_bd' (y m : Int) : 28 ≤ mdays y m ∧ mdays y m ≤ 31 := by
  unfold mdays; split <;> (try split) <;> (try split) <;> omega
theorem mcum_bd (y : Int) (k : Nat) : 0 ≤ mcum y k ∧ mcum y k ≤ 31 * (k : Int) := by
  induction k with
  | zero => simp [mcum]
  | succ k ih => have := mdays_bd' y ((k : Int) + 1); simp only [mcum]; omega

theorem chk3 : Region.lexB .any (regIn Try.f10 3) = true := by kernel_rfl

def RRet (n e : Int) (w : World) (en : Ending) (w' : World) : Prop := en = .returned (.tuple #[.int .i64 n, .int .i64 e]) ∧ Below w.heap.size w w'
def refVal (y : Nat) (mo : Nat) (d h mi s ms : Int) : Int := (bef y + d - 1 + mcum y (mo - 1)) * 86400000 + h * 3600000 + mi * 60000 + s * 1000 + ms

theorem refmoment_far (y mo d h mi s ms wd yd md : Int) (hy : y < 0 ∨ 9999 < y) (w : World) : Calls Try.prog 10 #[.agg #[.int .i64 y, .int .i64 mo, .int .i64 d, .int .i64 h, .int .i64 mi, .int .i64 s, .int .i64 ms, .int .i64 wd, .int .i64 yd, .int .i64 md]] w (RRet 0 33 w) := by
  rcases hy with hy | hy
  · go_enter Try.func10, Try.ntmps10
    go_wp2_with fail
    go_ret2
    exact ⟨rfl, (Below.refl _ _).alloc (Nat.le_refl _) _⟩
  · have h0 : ¬ y < 0 := by omega
    go_enter Try.func10, Try.ntmps10
    go_wp2_with fail
    go_ret2
    exact ⟨rfl, (Below.refl _ _).alloc (Nat.le_refl _) _⟩

set_option maxHeartbeats 1000000 in
set_option maxRecDepth 100000 in
theorem refmoment_0 (y mo d h mi s ms wd yd md : Int) (hy0 : 0 ≤ y) (hy1 : y ≤ 9999)  (c0 : mo < 1) (w : World) : Calls Try.prog 10 #[.agg #[.int .i64 y, .int .i64 mo, .int .i64 d, .int .i64 h, .int .i64 mi, .int .i64 s, .int .i64 ms, .int .i64 wd, .int .i64 yd, .int .i64 md]] w (RRet 0 2 w) := by
  have d0 : decide (mo < 1) = true := by simpa using c0
  go_enter Try.func10, Try.ntmps10
  go_wp2_with fail
  refine wp_region_quiet_lit (by kernel_rfl) chk3 ?_
  repeat (go_big_quiet_step ((go_at_call 27; exact quiet_of_eq (refmdays_any _ _ _))))
  refine wpQuiet_nil ?_
  rintro _ ⟨nq, rfl⟩
  go_wp2_with fail
  go_ret2
  exact ⟨rfl, ((Below.refl _ _).alloc (Nat.le_refl _) _).drewN' _⟩

set_option maxHeartbeats 1000000 in
set_option maxRecDepth 100000 in
theorem refmoment_1 (y mo d h mi s ms wd yd md : Int) (hy0 : 0 ≤ y) (hy1 : y ≤ 9999) (c0 : ¬ mo < 1) (c1 : 12 < mo) (w : World) : Calls Try.prog 10 #[.agg #[.int .i64 y, .int .i64 mo, .int .i64 d, .int .i64 h, .int .i64 mi, .int .i64 s, .int .i64 ms, .int .i64 wd, .int .i64 yd, .int .i64 md]] w (RRet 0 2 w) := by
  have d0 : decide (mo < 1) = false := by simpa using c0
  have d1 : decide (12 < mo) = true := by simpa using c1
  go_enter Try.func10, Try.ntmps10
  go_wp2_with fail
  refine wp_region_quiet_lit (by kernel_rfl) chk3 ?_
  repeat (go_big_quiet_step ((go_at_call 27; exact quiet_of_eq (refmdays_any _ _ _))))
  refine wpQuiet_nil ?_
  rintro _ ⟨nq, rfl⟩
  go_wp2_with fail
  go_ret2
  exact ⟨rfl, ((Below.refl _ _).alloc (Nat.le_refl _) _).drewN' _⟩

set_option maxHeartbeats 1000000 in
set_option maxRecDepth 100000 in
theorem refmoment_2 (y mo d h mi s ms wd yd md : Int) (hy0 : 0 ≤ y) (hy1 : y ≤ 9999) (c0 : ¬ mo < 1) (c1 : ¬ 12 < mo) (c2 : d < 1) (w : World) : Calls Try.prog 10 #[.agg #[.int .i64 y, .int .i64 mo, .int .i64 d, .int .i64 h, .int .i64 mi, .int .i64 s, .int .i64 ms, .int .i64 wd, .int .i64 yd, .int .i64 md]] w (RRet 0 2 w) := by
  have d0 : decide (mo < 1) = false := by simpa using c0
  have d1 : decide (12 < mo) = false := by simpa using c1
  have d2 : decide (d < 1) = true := by simpa using c2
  go_enter Try.func10, Try.ntmps10
  go_wp2_with fail
  refine wp_region_quiet_lit (by kernel_rfl) chk3 ?_
  repeat (go_big_quiet_step ((go_at_call 27; exact quiet_of_eq (refmdays_any _ _ _))))
  refine wpQuiet_nil ?_
  rintro _ ⟨nq, rfl⟩
  go_wp2_with fail
  go_ret2
  exact ⟨rfl, ((Below.refl _ _).alloc (Nat.le_refl _) _).drewN' _⟩

set_option maxHeartbeats 1000000 in
set_option maxRecDepth 100000 in
theorem refmoment_3 (y mo d h mi s ms wd yd md : Int) (hy0 : 0 ≤ y) (hy1 : y ≤ 9999) (c0 : ¬ mo < 1) (c1 : ¬ 12 < mo) (c2 : ¬ d < 1) (c3 : mdays y mo < d) (w : World) : Calls Try.prog 10 #[.agg #[.int .i64 y, .int .i64 mo, .int .i64 d, .int .i64 h, .int .i64 mi, .int .i64 s, .int .i64 ms, .int .i64 wd, .int .i64 yd, .int .i64 md]] w (RRet 0 2 w) := by
  have d0 : decide (mo < 1) = false := by simpa using c0
  have d1 : decide (12 < mo) = false := by simpa using c1
  have d2 : decide (d < 1) = false := by simpa using c2
  have d3 : decide (mdays y mo < d) = true := by simpa using c3
  go_enter Try.func10, Try.ntmps10
  go_wp2_with fail
  refine wp_region_quiet_lit (by kernel_rfl) chk3 ?_
  repeat (go_big_quiet_step ((go_at_call 27; exact quiet_of_eq (refmdays_any _ _ _))))
  refine wpQuiet_nil ?_
  rintro _ ⟨nq, rfl⟩
  go_wp2_with fail
  go_ret2
  exact ⟨rfl, ((Below.refl _ _).alloc (Nat.le_refl _) _).drewN' _⟩

set_option maxHeartbeats 1000000 in
set_option maxRecDepth 100000 in
theorem refmoment_4 (y mo d h mi s ms wd yd md : Int) (hy0 : 0 ≤ y) (hy1 : y ≤ 9999) (c0 : ¬ mo < 1) (c1 : ¬ 12 < mo) (c2 : ¬ d < 1) (c3 : ¬ mdays y mo < d) (c4 : h < 0) (w : World) : Calls Try.prog 10 #[.agg #[.int .i64 y, .int .i64 mo, .int .i64 d, .int .i64 h, .int .i64 mi, .int .i64 s, .int .i64 ms, .int .i64 wd, .int .i64 yd, .int .i64 md]] w (RRet 0 2 w) := by
  have d0 : decide (mo < 1) = false := by simpa using c0
  have d1 : decide (12 < mo) = false := by simpa using c1
  have d2 : decide (d < 1) = false := by simpa using c2
  have d3 : decide (mdays y mo < d) = false := by simpa using c3
  have d4 : decide (h < 0) = true := by simpa using c4
  go_enter Try.func10, Try.ntmps10
  go_wp2_with fail
  refine wp_region_quiet_lit (by kernel_rfl) chk3 ?_
  repeat (go_big_quiet_step ((go_at_call 27; exact quiet_of_eq (refmdays_any _ _ _))))
  refine wpQuiet_nil ?_
  rintro _ ⟨nq, rfl⟩
  go_wp2_with fail
  go_ret2
  exact ⟨rfl, ((Below.refl _ _).alloc (Nat.le_refl _) _).drewN' _⟩

set_option maxHeartbeats 1000000 in
set_option maxRecDepth 100000 in
theorem refmoment_5 (y mo d h mi s ms wd yd md : Int) (hy0 : 0 ≤ y) (hy1 : y ≤ 9999) (c0 : ¬ mo < 1) (c1 : ¬ 12 < mo) (c2 : ¬ d < 1) (c3 : ¬ mdays y mo < d) (c4 : ¬ h < 0) (c5 : 23 < h) (w : World) : Calls Try.prog 10 #[.agg #[.int .i64 y, .int .i64 mo, .int .i64 d, .int .i64 h, .int .i64 mi, .int .i64 s, .int .i64 ms, .int .i64 wd, .int .i64 yd, .int .i64 md]] w (RRet 0 2 w) := by
  have d0 : decide (mo < 1) = false := by simpa using c0
  have d1 : decide (12 < mo) = false := by simpa using c1
  have d2 : decide (d < 1) = false := by simpa using c2
  have d3 : decide (mdays y mo < d) = false := by simpa using c3
  have d4 : decide (h < 0) = false := by simpa using c4
  have d5 : decide (23 < h) = true := by simpa using c5
  go_enter Try.func10, Try.ntmps10
  go_wp2_with fail
  refine wp_region_quiet_lit (by kernel_rfl) chk3 ?_
  repeat (go_big_quiet_step ((go_at_call 27; exact quiet_of_eq (refmdays_any _ _ _))))
  refine wpQuiet_nil ?_
  rintro _ ⟨nq, rfl⟩
  go_wp2_with fail
  go_ret2
  exact ⟨rfl, ((Below.refl _ _).alloc (Nat.le_refl _) _).drewN' _⟩

set_option maxHeartbeats 1000000 in
set_option maxRecDepth 100000 in
theorem refmoment_6 (y mo d h mi s ms wd yd md : Int) (hy0 : 0 ≤ y) (hy1 : y ≤ 9999) (c0 : ¬ mo < 1) (c1 : ¬ 12 < mo) (c2 : ¬ d < 1) (c3 : ¬ mdays y mo < d) (c4 : ¬ h < 0) (c5 : ¬ 23 < h) (c6 : mi < 0) (w : World) : Calls Try.prog 10 #[.agg #[.int .i64 y, .int .i64 mo, .int .i64 d, .int .i64 h, .int .i64 mi, .int .i64 s, .int .i64 ms, .int .i64 wd, .int .i64 yd, .int .i64 md]] w (RRet 0 2 w) := by
  have d0 : decide (mo < 1) = false := by simpa using c0
  have d1 : decide (12 < mo) = false := by simpa using c1
  have d2 : decide (d < 1) = false := by simpa using c2
  have d3 : decide (mdays y mo < d) = false := by simpa using c3
  have d4 : decide (h < 0) = false := by simpa using c4
  have d5 : decide (23 < h) = false := by simpa using c5
  have d6 : decide (mi < 0) = true := by simpa using c6
  go_enter Try.func10, Try.ntmps10
  go_wp2_with fail
  refine wp_region_quiet_lit (by kernel_rfl) chk3 ?_
  repeat (go_big_quiet_step ((go_at_call 27; exact quiet_of_eq (refmdays_any _ _ _))))
  refine wpQuiet_nil ?_
  rintro _ ⟨nq, rfl⟩
  go_wp2_with fail
  go_ret2
  exact ⟨rfl, ((Below.refl _ _).alloc (Nat.le_refl _) _).drewN' _⟩

set_option maxHeartbeats 1000000 in
set_option maxRecDepth 100000 in
theorem refmoment_7 (y mo d h mi s ms wd yd md : Int) (hy0 : 0 ≤ y) (hy1 : y ≤ 9999) (c0 : ¬ mo < 1) (c1 : ¬ 12 < mo) (c2 : ¬ d < 1) (c3 : ¬ mdays y mo < d) (c4 : ¬ h < 0) (c5 : ¬ 23 < h) (c6 : ¬ mi < 0) (c7 : 59 < mi) (w : World) : Calls Try.prog 10 #[.agg #[.int .i64 y, .int .i64 mo, .int .i64 d, .int .i64 h, .int .i64 mi, .int .i64 s, .int .i64 ms, .int .i64 wd, .int .i64 yd, .int .i64 md]] w (RRet 0 2 w) := by
  have d0 : decide (mo < 1) = false := by simpa using c0
  have d1 : decide (12 < mo) = false := by simpa using c1
  have d2 : decide (d < 1) = false := by simpa using c2
  have d3 : decide (mdays y mo < d) = false := by simpa using c3
  have d4 : decide (h < 0) = false := by simpa using c4
  have d5 : decide (23 < h) = false := by simpa using c5
  have d6 : decide (mi < 0) = false := by simpa using c6
  have d7 : decide (59 < mi) = true := by simpa using c7
  go_enter Try.func10, Try.ntmps10
  go_wp2_with fail
  refine wp_region_quiet_lit (by kernel_rfl) chk3 ?_
  repeat (go_big_quiet_step ((go_at_call 27; exact quiet_of_eq (refmdays_any _ _ _))))
  refine wpQuiet_nil ?_
  rintro _ ⟨nq, rfl⟩
  go_wp2_with fail
  go_ret2
  exact ⟨rfl, ((Below.refl _ _).alloc (Nat.le_refl _) _).drewN' _⟩

set_option maxHeartbeats 1000000 in
set_option maxRecDepth 100000 in
theorem refmoment_8 (y mo d h mi s ms wd yd md : Int) (hy0 : 0 ≤ y) (hy1 : y ≤ 9999) (c0 : ¬ mo < 1) (c1 : ¬ 12 < mo) (c2 : ¬ d < 1) (c3 : ¬ mdays y mo < d) (c4 : ¬ h < 0) (c5 : ¬ 23 < h) (c6 : ¬ mi < 0) (c7 : ¬ 59 < mi) (c8 : s < 0) (w : World) : Calls Try.prog 10 #[.agg #[.int .i64 y, .int .i64 mo, .int .i64 d, .int .i64 h, .int .i64 mi, .int .i64 s, .int .i64 ms, .int .i64 wd, .int .i64 yd, .int .i64 md]] w (RRet 0 2 w) := by
  have d0 : decide (mo < 1) = false := by simpa using c0
  have d1 : decide (12 < mo) = false := by simpa using c1
  have d2 : decide (d < 1) = false := by simpa using c2
  have d3 : decide (mdays y mo < d) = false := by simpa using c3
  have d4 : decide (h < 0) = false := by simpa using c4
  have d5 : decide (23 < h) = false := by simpa using c5
  have d6 : decide (mi < 0) = false := by simpa using c6
  have d7 : decide (59 < mi) = false := by simpa using c7
  have d8 : decide (s < 0) = true := by simpa using c8
  go_enter Try.func10, Try.ntmps10
  go_wp2_with fail
  refine wp_region_quiet_lit (by kernel_rfl) chk3 ?_
  repeat (go_big_quiet_step ((go_at_call 27; exact quiet_of_eq (refmdays_any _ _ _))))
  refine wpQuiet_nil ?_
  rintro _ ⟨nq, rfl⟩
  go_wp2_with fail
  go_ret2
  exact ⟨rfl, ((Below.refl _ _).alloc (Nat.le_refl _) _).drewN' _⟩

set_option maxHeartbeats 1000000 in
set_option maxRecDepth 100000 in
theorem refmoment_9 (y mo d h mi s ms wd yd md : Int) (hy0 : 0 ≤ y) (hy1 : y ≤ 9999) (c0 : ¬ mo < 1) (c1 : ¬ 12 < mo) (c2 : ¬ d < 1) (c3 : ¬ mdays y mo < d) (c4 : ¬ h < 0) (c5 : ¬ 23 < h) (c6 : ¬ mi < 0) (c7 : ¬ 59 < mi) (c8 : ¬ s < 0) (c9 : 59 < s) (w : World) : Calls Try.prog 10 #[.agg #[.int .i64 y, .int .i64 mo, .int .i64 d, .int .i64 h, .int .i64 mi, .int .i64 s, .int .i64 ms, .int .i64 wd, .int .i64 yd, .int .i64 md]] w (RRet 0 2 w) := by
  have d0 : decide (mo < 1) = false := by simpa using c0
  have d1 : decide (12 < mo) = false := by simpa using c1
  have d2 : decide (d < 1) = false := by simpa using c2
  have d3 : decide (mdays y mo < d) = false := by simpa using c3
  have d4 : decide (h < 0) = false := by simpa using c4
  have d5 : decide (23 < h) = false := by simpa using c5
  have d6 : decide (mi < 0) = false := by simpa using c6
  have d7 : decide (59 < mi) = false := by simpa using c7
  have d8 : decide (s < 0) = false := by simpa using c8
  have d9 : decide (59 < s) = true := by simpa using c9
  go_enter Try.func10, Try.ntmps10
  go_wp2_with fail
  refine wp_region_quiet_lit (by kernel_rfl) chk3 ?_
  repeat (go_big_quiet_step ((go_at_call 27; exact quiet_of_eq (refmdays_any _ _ _))))
  refine wpQuiet_nil ?_
  rintro _ ⟨nq, rfl⟩
  go_wp2_with fail
  go_ret2
  exact ⟨rfl, ((Below.refl _ _).alloc (Nat.le_refl _) _).drewN' _⟩

set_option maxHeartbeats 1000000 in
set_option maxRecDepth 100000 in
theorem refmoment_10 (y mo d h mi s ms wd yd md : Int) (hy0 : 0 ≤ y) (hy1 : y ≤ 9999) (c0 : ¬ mo < 1) (c1 : ¬ 12 < mo) (c2 : ¬ d < 1) (c3 : ¬ mdays y mo < d) (c4 : ¬ h < 0) (c5 : ¬ 23 < h) (c6 : ¬ mi < 0) (c7 : ¬ 59 < mi) (c8 : ¬ s < 0) (c9 : ¬ 59 < s) (c10 : ms < 0) (w : World) : Calls Try.prog 10 #[.agg #[.int .i64 y, .int .i64 mo, .int .i64 d, .int .i64 h, .int .i64 mi, .int .i64 s, .int .i64 ms, .int .i64 wd, .int .i64 yd, .int .i64 md]] w (RRet 0 2 w) := by
  have d0 : decide (mo < 1) = false := by simpa using c0
  have d1 : decide (12 < mo) = false := by simpa using c1
  have d2 : decide (d < 1) = false := by simpa using c2
  have d3 : decide (mdays y mo < d) = false := by simpa using c3
  have d4 : decide (h < 0) = false := by simpa using c4
  have d5 : decide (23 < h) = false := by simpa using c5
  have d6 : decide (mi < 0) = false := by simpa using c6
  have d7 : decide (59 < mi) = false := by simpa using c7
  have d8 : decide (s < 0) = false := by simpa using c8
  have d9 : decide (59 < s) = false := by simpa using c9
  have d10 : decide (ms < 0) = true := by simpa using c10
  go_enter Try.func10, Try.ntmps10
  go_wp2_with fail
  refine wp_region_quiet_lit (by kernel_rfl) chk3 ?_
  repeat (go_big_quiet_step ((go_at_call 27; exact quiet_of_eq (refmdays_any _ _ _))))
  refine wpQuiet_nil ?_
  rintro _ ⟨nq, rfl⟩
  go_wp2_with fail
  go_ret2
  exact ⟨rfl, ((Below.refl _ _).alloc (Nat.le_refl _) _).drewN' _⟩

set_option maxHeartbeats 1000000 in
set_option maxRecDepth 100000 in
theorem refmoment_11 (y mo d h mi s ms wd yd md : Int) (hy0 : 0 ≤ y) (hy1 : y ≤ 9999) (c0 : ¬ mo < 1) (c1 : ¬ 12 < mo) (c2 : ¬ d < 1) (c3 : ¬ mdays y mo < d) (c4 : ¬ h < 0) (c5 : ¬ 23 < h) (c6 : ¬ mi < 0) (c7 : ¬ 59 < mi) (c8 : ¬ s < 0) (c9 : ¬ 59 < s) (c10 : ¬ ms < 0) (c11 : 999 < ms) (w : World) : Calls Try.prog 10 #[.agg #[.int .i64 y, .int .i64 mo, .int .i64 d, .int .i64 h, .int .i64 mi, .int .i64 s, .int .i64 ms, .int .i64 wd, .int .i64 yd, .int .i64 md]] w (RRet 0 2 w) := by
  have d0 : decide (mo < 1) = false := by simpa using c0
  have d1 : decide (12 < mo) = false := by simpa using c1
  have d2 : decide (d < 1) = false := by simpa using c2
  have d3 : decide (mdays y mo < d) = false := by simpa using c3
  have d4 : decide (h < 0) = false := by simpa using c4
  have d5 : decide (23 < h) = false := by simpa using c5
  have d6 : decide (mi < 0) = false := by simpa using c6
  have d7 : decide (59 < mi) = false := by simpa using c7
  have d8 : decide (s < 0) = false := by simpa using c8
  have d9 : decide (59 < s) = false := by simpa using c9
  have d10 : decide (ms < 0) = false := by simpa using c10
  have d11 : decide (999 < ms) = true := by simpa using c11
  go_enter Try.func10, Try.ntmps10
  go_wp2_with fail
  refine wp_region_quiet_lit (by kernel_rfl) chk3 ?_
  repeat (go_big_quiet_step ((go_at_call 27; exact quiet_of_eq (refmdays_any _ _ _))))
  refine wpQuiet_nil ?_
  rintro _ ⟨nq, rfl⟩
  go_wp2_with fail
  go_ret2
  exact ⟨rfl, ((Below.refl _ _).alloc (Nat.le_refl _) _).drewN' _⟩

set_option maxHeartbeats 1000000 in
set_option maxRecDepth 100000 in
theorem refmoment_ok (y mo : Nat) (d h mi s ms wd yd md : Int) (hy1 : y ≤ 9999) (c0 : ¬ (mo : Int) < 1) (c1 : ¬ 12 < (mo : Int)) (c2 : ¬ d < 1) (c3 : ¬ mdays y mo < d) (c4 : ¬ h < 0) (c5 : ¬ 23 < h) (c6 : ¬ mi < 0) (c7 : ¬ 59 < mi) (c8 : ¬ s < 0) (c9 : ¬ 59 < s) (c10 : ¬ ms < 0) (c11 : ¬ 999 < ms) (w : World) :
    Calls Try.prog 10 #[.agg #[.int .i64 y, .int .i64 mo, .int .i64 d, .int .i64 h, .int .i64 mi, .int .i64 s, .int .i64 ms, .int .i64 wd, .int .i64 yd, .int .i64 md]] w (RRet (refVal y mo d h mi s ms) 0 w) := by
  have d0 : decide ((mo : Int) < 1) = false := by simpa using c0
  have d1 : decide (12 < (mo : Int)) = false := by simpa using c1
  have d2 : decide (d < 1) = false := by simpa using c2
  have d3 : decide (mdays y mo < d) = false := by simpa using c3
  have d4 : decide (h < 0) = false := by simpa using c4
  have d5 : decide (23 < h) = false := by simpa using c5
  have d6 : decide (mi < 0) = false := by simpa using c6
  have d7 : decide (59 < mi) = false := by simpa using c7
  have d8 : decide (s < 0) = false := by simpa using c8
  have d9 : decide (59 < s) = false := by simpa using c9
  have d10 : decide (ms < 0) = false := by simpa using c10
  have d11 : decide (999 < ms) = false := by simpa using c11
  have hb := bef_bd y
  have hmd := mdays_bd' y mo
  have y0 : 0 ≤ (y : Int) := by omega
  have y9 : (y : Int) ≤ 9999 := by omega
  have dy0 : decide ((y : Int) < 0) = false := by simp
  have dy1 : decide (9999 < (y : Int)) = false := by simp; omega
  go_enter Try.func10, Try.ntmps10
  go_wp2_with fail
  refine wp_region_quiet_lit (by kernel_rfl) chk3 ?_
  repeat (go_big_quiet_step ((go_at_call 27; exact quiet_of_eq (refmdays_any _ _ _))))
  refine wpQuiet_nil ?_
  rintro _ ⟨nq, rfl⟩
  go_wp2_with fail
  go_quiet ((go_at_call 28; exact quiet_of_eq2 (before_any y hy1 _)))
  go_wp2_with fail
  rw [World.drewN_drewN]
  go_loop [4, 5] (fun t i => ∃ k : Nat, k + 1 ≤ mo ∧ i = .int .i64 ((k + 1 : Nat) : Int) ∧ t = .int .i64 (bef y + d - 1 + mcum y k)) (fun _ i => 20 - (intOf i).toNat)
  case atStart => exact ⟨0, by omega, rfl, by simp [mcum]⟩
  case round =>
    obtain ⟨k, hk, rfl, rfl⟩ := hrel
    have b1 := mcum_bd y k
    have b2 := mdays_bd' y ((k : Int) + 1)
    by_cases hlt : k + 1 < mo
    · have Hb : Hid (mcum y (k + 1) = mcum y k + mdays y ((k : Int) + 1)) := rfl
      go_wp2_with (go_at_call 27; refine (refmdays_any _ _ _).mono ?_; rintro e w' ⟨rfl, rfl⟩)
      go_round
      case rel => exact ⟨k + 1, by omega, by go_num, by rw [Hb.out]; go_num⟩
      case measure => simp [intOf]; omega
    · have Hk : Hid (k = mo - 1) := by show _ = _; omega
      go_wp2_with fail
      go_ret2
      exact ⟨ret_int2 (by rw [refVal, ← Hk.out]) rfl, ((Below.refl _ _).alloc (Nat.le_refl _) _).drewN' _⟩

end Go.Proofs.Ytmgnhekpgeahmaa
