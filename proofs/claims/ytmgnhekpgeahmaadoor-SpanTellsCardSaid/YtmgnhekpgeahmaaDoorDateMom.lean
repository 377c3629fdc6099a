/- Moment on both sides, told outright. -/
import Derived.Test.YtmgnhekpgeahmaaDoorLawMoments
namespace Go.Proofs.YtmgnhekpgeahmaaDoor
open Go.Fl Go.Rel Go.RowKit

def momR (y mo d h mi s ms : Int) : Int × Int :=
  if y < 0 ∨ 9999 < y then (0, 33) else if (1 ≤ mo ∧ mo ≤ 12) ∧ (1 ≤ d ∧ d ≤ mdays y mo) ∧ (0 ≤ h ∧ h ≤ 23) ∧ (0 ≤ mi ∧ mi ≤ 59) ∧ (0 ≤ s ∧ s ≤ 59) ∧ (0 ≤ ms ∧ ms ≤ 999) then (momVal y mo d h mi s ms, 0) else (0, 2)

theorem mdays_le (y m : Int) : mdays y m ≤ 31 := by unfold mdays; split <;> first | omega | (split <;> first | omega | (split <;> omega))

theorem momR_bad {y mo d h mi s ms : Int} (hy0 : 0 ≤ y) (hy1 : y ≤ 9999) (hb : ¬ ((1 ≤ mo ∧ mo ≤ 12) ∧ (1 ≤ d ∧ d ≤ mdays y mo) ∧ (0 ≤ h ∧ h ≤ 23) ∧ (0 ≤ mi ∧ mi ≤ 59) ∧ (0 ≤ s ∧ s ≤ 59) ∧ (0 ≤ ms ∧ ms ≤ 999))) : momR y mo d h mi s ms = (0, 2) := by
  unfold momR
  rw [if_neg (by omega), if_neg hb]

theorem momP_any (y mo d h mi s ms wd yd md : Int) (w : World) : Calls Tryd.prog 18 #[.agg #[.int .i64 y, .int .i64 mo, .int .i64 d, .int .i64 h, .int .i64 mi, .int .i64 s, .int .i64 ms, .int .i64 wd, .int .i64 yd, .int .i64 md]] w (MRet (momR y mo d h mi s ms).1 (momR y mo d h mi s ms).2 w) := by
  by_cases hy : y < 0 ∨ 9999 < y
  · rw [show momR y mo d h mi s ms = (0, 33) by unfold momR; rw [if_pos hy]]; exact moment_far _ _ _ _ _ _ _ _ _ _ hy w
  have hy0 : 0 ≤ y := by omega
  have hy1 : y ≤ 9999 := by omega
  have bad := momR_bad (y := y) (mo := mo) (d := d) (h := h) (mi := mi) (s := s) (ms := ms) hy0 hy1
  by_cases c0 : mo < 1
  · rw [bad (by omega)]; exact moment_0 _ _ _ _ _ _ _ _ _ _ hy0 hy1 (.inl c0) w
  by_cases c1 : 12 < mo
  · rw [bad (by omega)]; exact moment_0 _ _ _ _ _ _ _ _ _ _ hy0 hy1 (.inr c1) w
  have k0 : 1 ≤ mo ∧ mo ≤ 12 := by omega
  by_cases c2 : d < 1
  · rw [bad (by omega)]; exact moment_1 _ _ _ _ _ _ _ _ _ _ hy0 hy1 k0 (.inl c2) w
  by_cases c3 : mdays y mo < d
  · rw [bad (by omega)]; exact moment_1 _ _ _ _ _ _ _ _ _ _ hy0 hy1 k0 (.inr c3) w
  have k1 : 1 ≤ d ∧ d ≤ mdays y mo := by omega
  by_cases c4 : h < 0
  · rw [bad (by omega)]; exact moment_2 _ _ _ _ _ _ _ _ _ _ hy0 hy1 k0 k1 (.inl c4) w
  by_cases c5 : 23 < h
  · rw [bad (by omega)]; exact moment_2 _ _ _ _ _ _ _ _ _ _ hy0 hy1 k0 k1 (.inr c5) w
  have k2 : 0 ≤ h ∧ h ≤ 23 := by omega
  by_cases c6 : mi < 0
  · rw [bad (by omega)]; exact moment_3 _ _ _ _ _ _ _ _ _ _ hy0 hy1 k0 k1 k2 (.inl c6) w
  by_cases c7 : 59 < mi
  · rw [bad (by omega)]; exact moment_3 _ _ _ _ _ _ _ _ _ _ hy0 hy1 k0 k1 k2 (.inr c7) w
  have k3 : 0 ≤ mi ∧ mi ≤ 59 := by omega
  by_cases c8 : s < 0
  · rw [bad (by omega)]; exact moment_4 _ _ _ _ _ _ _ _ _ _ hy0 hy1 k0 k1 k2 k3 (.inl c8) w
  by_cases c9 : 59 < s
  · rw [bad (by omega)]; exact moment_4 _ _ _ _ _ _ _ _ _ _ hy0 hy1 k0 k1 k2 k3 (.inr c9) w
  have k4 : 0 ≤ s ∧ s ≤ 59 := by omega
  by_cases c10 : ms < 0
  · rw [bad (by omega)]; exact moment_5 _ _ _ _ _ _ _ _ _ _ hy0 hy1 k0 k1 k2 k3 k4 (.inl c10) w
  by_cases c11 : 999 < ms
  · rw [bad (by omega)]; exact moment_5 _ _ _ _ _ _ _ _ _ _ hy0 hy1 k0 k1 k2 k3 k4 (.inr c11) w
  have k5 : 0 ≤ ms ∧ ms ≤ 999 := by omega
  rw [show momR y mo d h mi s ms = (momVal y mo d h mi s ms, 0) by unfold momR; rw [if_neg hy, if_pos ⟨k0, k1, k2, k3, k4, k5⟩]]
  exact moment_6 _ _ _ _ _ _ _ _ _ _ hy0 hy1 k0 k1 k2 k3 k4 k5 w

end Go.Proofs.YtmgnhekpgeahmaaDoor
