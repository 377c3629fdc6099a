/- span.Moment and weirref03.Moment: what they answer. -/
import Derived.Test.YtmgnhekpgeahmaaDoorCal
import Derived.Deep.QuietTactic
import Derived.BigQuiet
namespace Go.Proofs.YtmgnhekpgeahmaaDoor
open Go.Fl Go.Rel Go.RowKit

theorem within_yes (n lo hi : Int) (w : World) (h : lo ≤ n ∧ n ≤ hi) : Calls Tryd.prog 36 #[.int .i64 n, .int .i64 lo, .int .i64 hi] w fun e w' => e = .returned (.bool true) ∧ w = w' :=
  (within_any n lo hi w).mono fun e w' ⟨he, hw⟩ => ⟨by rw [he]; exact ret_bool (by simp [h.1, h.2]), hw⟩
theorem within_no (n lo hi : Int) (w : World) (h : n < lo ∨ hi < n) : Calls Tryd.prog 36 #[.int .i64 n, .int .i64 lo, .int .i64 hi] w fun e w' => e = .returned (.bool false) ∧ w = w' :=
  (within_any n lo hi w).mono fun e w' ⟨he, hw⟩ => ⟨by rw [he]; exact ret_bool (by simp; omega), hw⟩

def MRet (n e : Int) (w : World) (en : Ending) (w' : World) : Prop := en = .returned (.tuple #[.int .i64 n, .int .i64 e]) ∧ Below w.heap.size w w'

/-- Is this a date and a time of day? -/
def momOk (y mo d h mi s ms : Int) : Prop := (1 ≤ mo ∧ mo ≤ 12) ∧ (1 ≤ d ∧ d ≤ mdays y mo) ∧ (0 ≤ h ∧ h ≤ 23) ∧ (0 ≤ mi ∧ mi ≤ 59) ∧ (0 ≤ s ∧ s ≤ 59) ∧ (0 ≤ ms ∧ ms ≤ 999)
def momVal (y mo d h mi s ms : Int) : Int := dayNum y mo d * 86400000 + (((h * 60 + mi) * 60 + s) * 1000 + ms)

theorem mdays_bd (y m : Int) : 28 ≤ mdays y m ∧ mdays y m ≤ 31 := by
  unfold mdays; split <;> (try split) <;> (try split) <;> omega

theorem dayNum_bd (y m d : Int) (hy : 0 ≤ y) (hy' : y ≤ 9999) (hm : 1 ≤ m) (hm' : m ≤ 12) (hd : 1 ≤ d) (hd' : d ≤ 31) : -1000000 ≤ dayNum y m d ∧ dayNum y m d ≤ 4000000 := by
  unfold dayNum doyM
  dsimp only
  split <;> omega

theorem moment_far (y mo d h mi s ms wd yd md : Int) (hy : y < 0 ∨ 9999 < y) (w : World) : Calls Tryd.prog 18 #[.agg #[.int .i64 y, .int .i64 mo, .int .i64 d, .int .i64 h, .int .i64 mi, .int .i64 s, .int .i64 ms, .int .i64 wd, .int .i64 yd, .int .i64 md]] w (MRet 0 33 w) := by
  rcases hy with hy | hy
  · go_enter Tryd.func18, Tryd.ntmps18
    go_wp2_with fail
    go_ret2
    exact ⟨rfl, (Below.refl _ _).alloc (Nat.le_refl _) _⟩
  · have h0 : ¬ y < 0 := by omega
    go_enter Tryd.func18, Tryd.ntmps18
    go_wp2_with fail
    go_ret2
    exact ⟨rfl, (Below.refl _ _).alloc (Nat.le_refl _) _⟩

set_option maxHeartbeats 1000000 in
theorem moment_0 (y mo d h mi s ms wd yd md : Int) (hy0 : 0 ≤ y) (hy1 : y ≤ 9999)  (c0 : mo < 1 ∨ 12 < mo) (w : World) : Calls Tryd.prog 18 #[.agg #[.int .i64 y, .int .i64 mo, .int .i64 d, .int .i64 h, .int .i64 mi, .int .i64 s, .int .i64 ms, .int .i64 wd, .int .i64 yd, .int .i64 md]] w (MRet 0 2 w) := by
  go_enter Tryd.func18, Tryd.ntmps18
  go_wp2_with fail
  go_quiet (first | (go_at_call 36; first | (refine quiet_of_eq (within_yes _ _ _ _ ?_); omega) | (refine quiet_of_eq (within_no _ _ _ _ ?_); omega)) | (go_at_call 25; exact quiet_of_eq (mdays_any _ _ _)))
  go_wp2_with ((go_at_call 36; first | (refine (within_yes _ _ _ _ ?_).mono ?_; (· omega)) | (refine (within_no _ _ _ _ ?_).mono ?_; (· omega))); rintro e w' ⟨rfl, rfl⟩)
  go_ret2
  exact ⟨rfl, ((Below.refl _ _).alloc (Nat.le_refl _) _).drewN' _⟩

set_option maxHeartbeats 1000000 in
theorem moment_1 (y mo d h mi s ms wd yd md : Int) (hy0 : 0 ≤ y) (hy1 : y ≤ 9999) (c0 : 1 ≤ mo ∧ mo ≤ 12) (c1 : d < 1 ∨ mdays y mo < d) (w : World) : Calls Tryd.prog 18 #[.agg #[.int .i64 y, .int .i64 mo, .int .i64 d, .int .i64 h, .int .i64 mi, .int .i64 s, .int .i64 ms, .int .i64 wd, .int .i64 yd, .int .i64 md]] w (MRet 0 2 w) := by
  go_enter Tryd.func18, Tryd.ntmps18
  go_wp2_with fail
  go_quiet (first | (go_at_call 36; first | (refine quiet_of_eq (within_yes _ _ _ _ ?_); omega) | (refine quiet_of_eq (within_no _ _ _ _ ?_); omega)) | (go_at_call 25; exact quiet_of_eq (mdays_any _ _ _)))
  go_wp2_with ((go_at_call 36; first | (refine (within_yes _ _ _ _ ?_).mono ?_; (· omega)) | (refine (within_no _ _ _ _ ?_).mono ?_; (· omega))); rintro e w' ⟨rfl, rfl⟩)
  go_ret2
  exact ⟨rfl, ((Below.refl _ _).alloc (Nat.le_refl _) _).drewN' _⟩

set_option maxHeartbeats 1000000 in
theorem moment_2 (y mo d h mi s ms wd yd md : Int) (hy0 : 0 ≤ y) (hy1 : y ≤ 9999) (c0 : 1 ≤ mo ∧ mo ≤ 12) (c1 : 1 ≤ d ∧ d ≤ mdays y mo) (c2 : h < 0 ∨ 23 < h) (w : World) : Calls Tryd.prog 18 #[.agg #[.int .i64 y, .int .i64 mo, .int .i64 d, .int .i64 h, .int .i64 mi, .int .i64 s, .int .i64 ms, .int .i64 wd, .int .i64 yd, .int .i64 md]] w (MRet 0 2 w) := by
  go_enter Tryd.func18, Tryd.ntmps18
  go_wp2_with fail
  go_quiet (first | (go_at_call 36; first | (refine quiet_of_eq (within_yes _ _ _ _ ?_); omega) | (refine quiet_of_eq (within_no _ _ _ _ ?_); omega)) | (go_at_call 25; exact quiet_of_eq (mdays_any _ _ _)))
  go_wp2_with ((go_at_call 36; first | (refine (within_yes _ _ _ _ ?_).mono ?_; (· omega)) | (refine (within_no _ _ _ _ ?_).mono ?_; (· omega))); rintro e w' ⟨rfl, rfl⟩)
  go_ret2
  exact ⟨rfl, ((Below.refl _ _).alloc (Nat.le_refl _) _).drewN' _⟩

set_option maxHeartbeats 1000000 in
theorem moment_3 (y mo d h mi s ms wd yd md : Int) (hy0 : 0 ≤ y) (hy1 : y ≤ 9999) (c0 : 1 ≤ mo ∧ mo ≤ 12) (c1 : 1 ≤ d ∧ d ≤ mdays y mo) (c2 : 0 ≤ h ∧ h ≤ 23) (c3 : mi < 0 ∨ 59 < mi) (w : World) : Calls Tryd.prog 18 #[.agg #[.int .i64 y, .int .i64 mo, .int .i64 d, .int .i64 h, .int .i64 mi, .int .i64 s, .int .i64 ms, .int .i64 wd, .int .i64 yd, .int .i64 md]] w (MRet 0 2 w) := by
  go_enter Tryd.func18, Tryd.ntmps18
  go_wp2_with fail
  go_quiet (first | (go_at_call 36; first | (refine quiet_of_eq (within_yes _ _ _ _ ?_); omega) | (refine quiet_of_eq (within_no _ _ _ _ ?_); omega)) | (go_at_call 25; exact quiet_of_eq (mdays_any _ _ _)))
  go_wp2_with ((go_at_call 36; first | (refine (within_yes _ _ _ _ ?_).mono ?_; (· omega)) | (refine (within_no _ _ _ _ ?_).mono ?_; (· omega))); rintro e w' ⟨rfl, rfl⟩)
  go_ret2
  exact ⟨rfl, ((Below.refl _ _).alloc (Nat.le_refl _) _).drewN' _⟩

set_option maxHeartbeats 1000000 in
theorem moment_4 (y mo d h mi s ms wd yd md : Int) (hy0 : 0 ≤ y) (hy1 : y ≤ 9999) (c0 : 1 ≤ mo ∧ mo ≤ 12) (c1 : 1 ≤ d ∧ d ≤ mdays y mo) (c2 : 0 ≤ h ∧ h ≤ 23) (c3 : 0 ≤ mi ∧ mi ≤ 59) (c4 : s < 0 ∨ 59 < s) (w : World) : Calls Tryd.prog 18 #[.agg #[.int .i64 y, .int .i64 mo, .int .i64 d, .int .i64 h, .int .i64 mi, .int .i64 s, .int .i64 ms, .int .i64 wd, .int .i64 yd, .int .i64 md]] w (MRet 0 2 w) := by
  go_enter Tryd.func18, Tryd.ntmps18
  go_wp2_with fail
  go_quiet (first | (go_at_call 36; first | (refine quiet_of_eq (within_yes _ _ _ _ ?_); omega) | (refine quiet_of_eq (within_no _ _ _ _ ?_); omega)) | (go_at_call 25; exact quiet_of_eq (mdays_any _ _ _)))
  go_wp2_with ((go_at_call 36; first | (refine (within_yes _ _ _ _ ?_).mono ?_; (· omega)) | (refine (within_no _ _ _ _ ?_).mono ?_; (· omega))); rintro e w' ⟨rfl, rfl⟩)
  go_ret2
  exact ⟨rfl, ((Below.refl _ _).alloc (Nat.le_refl _) _).drewN' _⟩

set_option maxHeartbeats 1000000 in
theorem moment_5 (y mo d h mi s ms wd yd md : Int) (hy0 : 0 ≤ y) (hy1 : y ≤ 9999) (c0 : 1 ≤ mo ∧ mo ≤ 12) (c1 : 1 ≤ d ∧ d ≤ mdays y mo) (c2 : 0 ≤ h ∧ h ≤ 23) (c3 : 0 ≤ mi ∧ mi ≤ 59) (c4 : 0 ≤ s ∧ s ≤ 59) (c5 : ms < 0 ∨ 999 < ms) (w : World) : Calls Tryd.prog 18 #[.agg #[.int .i64 y, .int .i64 mo, .int .i64 d, .int .i64 h, .int .i64 mi, .int .i64 s, .int .i64 ms, .int .i64 wd, .int .i64 yd, .int .i64 md]] w (MRet 0 2 w) := by
  go_enter Tryd.func18, Tryd.ntmps18
  go_wp2_with fail
  go_quiet (first | (go_at_call 36; first | (refine quiet_of_eq (within_yes _ _ _ _ ?_); omega) | (refine quiet_of_eq (within_no _ _ _ _ ?_); omega)) | (go_at_call 25; exact quiet_of_eq (mdays_any _ _ _)))
  go_wp2_with ((go_at_call 36; first | (refine (within_yes _ _ _ _ ?_).mono ?_; (· omega)) | (refine (within_no _ _ _ _ ?_).mono ?_; (· omega))); rintro e w' ⟨rfl, rfl⟩)
  go_ret2
  exact ⟨rfl, ((Below.refl _ _).alloc (Nat.le_refl _) _).drewN' _⟩

set_option maxHeartbeats 1000000 in
theorem moment_6 (y mo d h mi s ms wd yd md : Int) (hy0 : 0 ≤ y) (hy1 : y ≤ 9999) (c0 : 1 ≤ mo ∧ mo ≤ 12) (c1 : 1 ≤ d ∧ d ≤ mdays y mo) (c2 : 0 ≤ h ∧ h ≤ 23) (c3 : 0 ≤ mi ∧ mi ≤ 59) (c4 : 0 ≤ s ∧ s ≤ 59) (c5 : 0 ≤ ms ∧ ms ≤ 999) (w : World) : Calls Tryd.prog 18 #[.agg #[.int .i64 y, .int .i64 mo, .int .i64 d, .int .i64 h, .int .i64 mi, .int .i64 s, .int .i64 ms, .int .i64 wd, .int .i64 yd, .int .i64 md]] w (MRet (momVal y mo d h mi s ms) 0 w) := by
  go_enter Tryd.func18, Tryd.ntmps18
  go_wp2_with fail
  go_quiet (first | (go_at_call 36; first | (refine quiet_of_eq (within_yes _ _ _ _ ?_); omega) | (refine quiet_of_eq (within_no _ _ _ _ ?_); omega)) | (go_at_call 25; exact quiet_of_eq (mdays_any _ _ _)))
  go_wp2_with ((go_at_call 36; first | (refine (within_yes _ _ _ _ ?_).mono ?_; (· omega)) | (refine (within_no _ _ _ _ ?_).mono ?_; (· omega))); rintro e w' ⟨rfl, rfl⟩)
  have hmd := mdays_bd y mo
  have hdn := dayNum_bd y mo d hy0 hy1 c0.1 c0.2 c1.1 (by omega)
  go_wp2_with (go_at_call 26; refine (dayNumber_any _ _ _ (by omega) (by omega) (by omega) (by omega) (by omega) (by omega) _).mono ?_; rintro e w' ⟨rfl, n, rfl⟩)
  go_ret2
  exact ⟨rfl, ((Below.refl _ _).alloc (Nat.le_refl _) _).drewN' _⟩

end Go.Proofs.YtmgnhekpgeahmaaDoor
