/- Moment on both sides, told outright. -/
import Derived.Test.YtmgnhekpgeahmaaLawMoments
namespace Go.Proofs.Ytmgnhekpgeahmaa
open Go.Fl Go.Rel Go.RowKit

def momR (y mo d h mi s ms : Int) : Int × Int :=
  if y < 0 ∨ 9999 < y then (0, 33) else if (1 ≤ mo ∧ mo ≤ 12) ∧ (1 ≤ d ∧ d ≤ mdays y mo) ∧ (0 ≤ h ∧ h ≤ 23) ∧ (0 ≤ mi ∧ mi ≤ 59) ∧ (0 ≤ s ∧ s ≤ 59) ∧ (0 ≤ ms ∧ ms ≤ 999) then (momVal y mo d h mi s ms, 0) else (0, 2)

theorem mdays_le (y m : Int) : mdays y m ≤ 31 := by unfold mdays; split <;> first | omega | (split <;> first | omega | (split <;> omega))

def MBoth (y mo d h mi s ms wd yd md : Int) (n e : Int) : Prop := ∀ w,
    Calls Try.prog 9 #[.agg #[.int .i64 y, .int .i64 mo, .int .i64 d, .int .i64 h, .int .i64 mi, .int .i64 s, .int .i64 ms, .int .i64 wd, .int .i64 yd, .int .i64 md]] w (MRet n e w) ∧
    Calls Try.prog 10 #[.agg #[.int .i64 y, .int .i64 mo, .int .i64 d, .int .i64 h, .int .i64 mi, .int .i64 s, .int .i64 ms, .int .i64 wd, .int .i64 yd, .int .i64 md]] w (MRet n e w)

theorem both_of {y mo d h mi s ms wd yd md n e : Int} (hr : momR y mo d h mi s ms = (n, e)) (hb : MBoth y mo d h mi s ms wd yd md n e) : MBoth y mo d h mi s ms wd yd md (momR y mo d h mi s ms).1 (momR y mo d h mi s ms).2 := by
  rw [hr]; exact hb

theorem momR_bad {y mo d h mi s ms : Int} (hy0 : 0 ≤ y) (hy1 : y ≤ 9999) (hb : ¬ ((1 ≤ mo ∧ mo ≤ 12) ∧ (1 ≤ d ∧ d ≤ mdays y mo) ∧ (0 ≤ h ∧ h ≤ 23) ∧ (0 ≤ mi ∧ mi ≤ 59) ∧ (0 ≤ s ∧ s ≤ 59) ∧ (0 ≤ ms ∧ ms ≤ 999))) : momR y mo d h mi s ms = (0, 2) := by
  unfold momR
  rw [if_neg (by omega), if_neg hb]

theorem both2 (y mo d h mi s ms wd yd md : Int) : MBoth y mo d h mi s ms wd yd md (momR y mo d h mi s ms).1 (momR y mo d h mi s ms).2 := by
  by_cases hy : y < 0 ∨ 9999 < y
  · exact both_of (n := 0) (e := 33) (by unfold momR; rw [if_pos hy]) fun w => ⟨moment_far _ _ _ _ _ _ _ _ _ _ hy w, refmoment_far _ _ _ _ _ _ _ _ _ _ hy w⟩
  have hy0 : 0 ≤ y := by omega
  have hy1 : y ≤ 9999 := by omega
  have bad := momR_bad (y := y) (mo := mo) (d := d) (h := h) (mi := mi) (s := s) (ms := ms) hy0 hy1
  by_cases c0 : mo < 1
  · exact both_of (bad (by omega)) fun w => ⟨moment_0 _ _ _ _ _ _ _ _ _ _ hy0 hy1 (.inl c0) w, refmoment_0 _ _ _ _ _ _ _ _ _ _ hy0 hy1 c0 w⟩
  by_cases c1 : 12 < mo
  · exact both_of (bad (by omega)) fun w => ⟨moment_0 _ _ _ _ _ _ _ _ _ _ hy0 hy1 (.inr c1) w, refmoment_1 _ _ _ _ _ _ _ _ _ _ hy0 hy1 c0 c1 w⟩
  have k0 : 1 ≤ mo ∧ mo ≤ 12 := by omega
  by_cases c2 : d < 1
  · exact both_of (bad (by omega)) fun w => ⟨moment_1 _ _ _ _ _ _ _ _ _ _ hy0 hy1 k0 (.inl c2) w, refmoment_2 _ _ _ _ _ _ _ _ _ _ hy0 hy1 c0 c1 c2 w⟩
  by_cases c3 : mdays y mo < d
  · exact both_of (bad (by omega)) fun w => ⟨moment_1 _ _ _ _ _ _ _ _ _ _ hy0 hy1 k0 (.inr c3) w, refmoment_3 _ _ _ _ _ _ _ _ _ _ hy0 hy1 c0 c1 c2 c3 w⟩
  have k1 : 1 ≤ d ∧ d ≤ mdays y mo := by omega
  by_cases c4 : h < 0
  · exact both_of (bad (by omega)) fun w => ⟨moment_2 _ _ _ _ _ _ _ _ _ _ hy0 hy1 k0 k1 (.inl c4) w, refmoment_4 _ _ _ _ _ _ _ _ _ _ hy0 hy1 c0 c1 c2 c3 c4 w⟩
  by_cases c5 : 23 < h
  · exact both_of (bad (by omega)) fun w => ⟨moment_2 _ _ _ _ _ _ _ _ _ _ hy0 hy1 k0 k1 (.inr c5) w, refmoment_5 _ _ _ _ _ _ _ _ _ _ hy0 hy1 c0 c1 c2 c3 c4 c5 w⟩
  have k2 : 0 ≤ h ∧ h ≤ 23 := by omega
  by_cases c6 : mi < 0
  · exact both_of (bad (by omega)) fun w => ⟨moment_3 _ _ _ _ _ _ _ _ _ _ hy0 hy1 k0 k1 k2 (.inl c6) w, refmoment_6 _ _ _ _ _ _ _ _ _ _ hy0 hy1 c0 c1 c2 c3 c4 c5 c6 w⟩
  by_cases c7 : 59 < mi
  · exact both_of (bad (by omega)) fun w => ⟨moment_3 _ _ _ _ _ _ _ _ _ _ hy0 hy1 k0 k1 k2 (.inr c7) w, refmoment_7 _ _ _ _ _ _ _ _ _ _ hy0 hy1 c0 c1 c2 c3 c4 c5 c6 c7 w⟩
  have k3 : 0 ≤ mi ∧ mi ≤ 59 := by omega
  by_cases c8 : s < 0
  · exact both_of (bad (by omega)) fun w => ⟨moment_4 _ _ _ _ _ _ _ _ _ _ hy0 hy1 k0 k1 k2 k3 (.inl c8) w, refmoment_8 _ _ _ _ _ _ _ _ _ _ hy0 hy1 c0 c1 c2 c3 c4 c5 c6 c7 c8 w⟩
  by_cases c9 : 59 < s
  · exact both_of (bad (by omega)) fun w => ⟨moment_4 _ _ _ _ _ _ _ _ _ _ hy0 hy1 k0 k1 k2 k3 (.inr c9) w, refmoment_9 _ _ _ _ _ _ _ _ _ _ hy0 hy1 c0 c1 c2 c3 c4 c5 c6 c7 c8 c9 w⟩
  have k4 : 0 ≤ s ∧ s ≤ 59 := by omega
  by_cases c10 : ms < 0
  · exact both_of (bad (by omega)) fun w => ⟨moment_5 _ _ _ _ _ _ _ _ _ _ hy0 hy1 k0 k1 k2 k3 k4 (.inl c10) w, refmoment_10 _ _ _ _ _ _ _ _ _ _ hy0 hy1 c0 c1 c2 c3 c4 c5 c6 c7 c8 c9 c10 w⟩
  by_cases c11 : 999 < ms
  · exact both_of (bad (by omega)) fun w => ⟨moment_5 _ _ _ _ _ _ _ _ _ _ hy0 hy1 k0 k1 k2 k3 k4 (.inr c11) w, refmoment_11 _ _ _ _ _ _ _ _ _ _ hy0 hy1 c0 c1 c2 c3 c4 c5 c6 c7 c8 c9 c10 c11 w⟩
  have k5 : 0 ≤ ms ∧ ms ≤ 999 := by omega
  obtain ⟨yn, rfl⟩ := Int.eq_ofNat_of_zero_le hy0
  obtain ⟨mn, rfl⟩ := Int.eq_ofNat_of_zero_le (show 0 ≤ mo by omega)
  refine both_of (n := momVal yn mn d h mi s ms) (e := 0) (by unfold momR; rw [if_neg hy, if_pos ⟨k0, k1, k2, k3, k4, k5⟩]) fun w => ⟨moment_6 _ _ _ _ _ _ _ _ _ _ hy0 hy1 k0 k1 k2 k3 k4 k5 w, ?_⟩
  have := refmoment_ok yn mn d h mi s ms wd yd md (by omega) c0 c1 c2 c3 c4 c5 c6 c7 c8 c9 c10 c11 w
  rw [← momVal_eq yn mn d h mi s ms (by omega) (by omega)] at this
  exact this

end Go.Proofs.Ytmgnhekpgeahmaa
