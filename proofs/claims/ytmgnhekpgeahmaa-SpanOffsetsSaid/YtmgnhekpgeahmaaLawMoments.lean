/- weirlaw03.SpanMoments returns true whatever comes in. -/
import Derived.Test.YtmgnhekpgeahmaaCalLaw
namespace Go.Proofs.Ytmgnhekpgeahmaa
open Go.Fl Go.Rel Go.RowKit

/-- What the two answer alike: the value and the error. -/
theorem both (y mo d h mi s ms wd yd md : Int) : ∃ n e : Int, ∀ w,
    Calls Try.prog 9 #[.agg #[.int .i64 y, .int .i64 mo, .int .i64 d, .int .i64 h, .int .i64 mi, .int .i64 s, .int .i64 ms, .int .i64 wd, .int .i64 yd, .int .i64 md]] w (MRet n e w) ∧
    Calls Try.prog 10 #[.agg #[.int .i64 y, .int .i64 mo, .int .i64 d, .int .i64 h, .int .i64 mi, .int .i64 s, .int .i64 ms, .int .i64 wd, .int .i64 yd, .int .i64 md]] w (MRet n e w) := by
  by_cases hy : y < 0 ∨ 9999 < y
  · exact ⟨0, 33, fun w => ⟨moment_far _ _ _ _ _ _ _ _ _ _ hy w, refmoment_far _ _ _ _ _ _ _ _ _ _ hy w⟩⟩
  have hy0 : 0 ≤ y := by omega
  have hy1 : y ≤ 9999 := by omega
  by_cases c0 : mo < 1
  · exact ⟨0, 2, fun w => ⟨moment_0 _ _ _ _ _ _ _ _ _ _ hy0 hy1 (.inl c0) w, refmoment_0 _ _ _ _ _ _ _ _ _ _ hy0 hy1 c0 w⟩⟩
  by_cases c1 : 12 < mo
  · exact ⟨0, 2, fun w => ⟨moment_0 _ _ _ _ _ _ _ _ _ _ hy0 hy1 (.inr c1) w, refmoment_1 _ _ _ _ _ _ _ _ _ _ hy0 hy1 c0 c1 w⟩⟩
  have k0 : 1 ≤ mo ∧ mo ≤ 12 := by omega
  by_cases c2 : d < 1
  · exact ⟨0, 2, fun w => ⟨moment_1 _ _ _ _ _ _ _ _ _ _ hy0 hy1 k0 (.inl c2) w, refmoment_2 _ _ _ _ _ _ _ _ _ _ hy0 hy1 c0 c1 c2 w⟩⟩
  by_cases c3 : mdays y mo < d
  · exact ⟨0, 2, fun w => ⟨moment_1 _ _ _ _ _ _ _ _ _ _ hy0 hy1 k0 (.inr c3) w, refmoment_3 _ _ _ _ _ _ _ _ _ _ hy0 hy1 c0 c1 c2 c3 w⟩⟩
  have k1 : 1 ≤ d ∧ d ≤ mdays y mo := by omega
  by_cases c4 : h < 0
  · exact ⟨0, 2, fun w => ⟨moment_2 _ _ _ _ _ _ _ _ _ _ hy0 hy1 k0 k1 (.inl c4) w, refmoment_4 _ _ _ _ _ _ _ _ _ _ hy0 hy1 c0 c1 c2 c3 c4 w⟩⟩
  by_cases c5 : 23 < h
  · exact ⟨0, 2, fun w => ⟨moment_2 _ _ _ _ _ _ _ _ _ _ hy0 hy1 k0 k1 (.inr c5) w, refmoment_5 _ _ _ _ _ _ _ _ _ _ hy0 hy1 c0 c1 c2 c3 c4 c5 w⟩⟩
  have k2 : 0 ≤ h ∧ h ≤ 23 := by omega
  by_cases c6 : mi < 0
  · exact ⟨0, 2, fun w => ⟨moment_3 _ _ _ _ _ _ _ _ _ _ hy0 hy1 k0 k1 k2 (.inl c6) w, refmoment_6 _ _ _ _ _ _ _ _ _ _ hy0 hy1 c0 c1 c2 c3 c4 c5 c6 w⟩⟩
  by_cases c7 : 59 < mi
  · exact ⟨0, 2, fun w => ⟨moment_3 _ _ _ _ _ _ _ _ _ _ hy0 hy1 k0 k1 k2 (.inr c7) w, refmoment_7 _ _ _ _ _ _ _ _ _ _ hy0 hy1 c0 c1 c2 c3 c4 c5 c6 c7 w⟩⟩
  have k3 : 0 ≤ mi ∧ mi ≤ 59 := by omega
  by_cases c8 : s < 0
  · exact ⟨0, 2, fun w => ⟨moment_4 _ _ _ _ _ _ _ _ _ _ hy0 hy1 k0 k1 k2 k3 (.inl c8) w, refmoment_8 _ _ _ _ _ _ _ _ _ _ hy0 hy1 c0 c1 c2 c3 c4 c5 c6 c7 c8 w⟩⟩
  by_cases c9 : 59 < s
  · exact ⟨0, 2, fun w => ⟨moment_4 _ _ _ _ _ _ _ _ _ _ hy0 hy1 k0 k1 k2 k3 (.inr c9) w, refmoment_9 _ _ _ _ _ _ _ _ _ _ hy0 hy1 c0 c1 c2 c3 c4 c5 c6 c7 c8 c9 w⟩⟩
  have k4 : 0 ≤ s ∧ s ≤ 59 := by omega
  by_cases c10 : ms < 0
  · exact ⟨0, 2, fun w => ⟨moment_5 _ _ _ _ _ _ _ _ _ _ hy0 hy1 k0 k1 k2 k3 k4 (.inl c10) w, refmoment_10 _ _ _ _ _ _ _ _ _ _ hy0 hy1 c0 c1 c2 c3 c4 c5 c6 c7 c8 c9 c10 w⟩⟩
  by_cases c11 : 999 < ms
  · exact ⟨0, 2, fun w => ⟨moment_5 _ _ _ _ _ _ _ _ _ _ hy0 hy1 k0 k1 k2 k3 k4 (.inr c11) w, refmoment_11 _ _ _ _ _ _ _ _ _ _ hy0 hy1 c0 c1 c2 c3 c4 c5 c6 c7 c8 c9 c10 c11 w⟩⟩
  have k5 : 0 ≤ ms ∧ ms ≤ 999 := by omega
  obtain ⟨yn, rfl⟩ := Int.eq_ofNat_of_zero_le hy0
  obtain ⟨mn, rfl⟩ := Int.eq_ofNat_of_zero_le (show 0 ≤ mo by omega)
  refine ⟨momVal yn mn d h mi s ms, 0, fun w => ⟨moment_6 _ _ _ _ _ _ _ _ _ _ hy0 hy1 k0 k1 k2 k3 k4 k5 w, ?_⟩⟩
  have := refmoment_ok yn mn d h mi s ms wd yd md (by omega) c0 c1 c2 c3 c4 c5 c6 c7 c8 c9 c10 c11 w
  rw [← momVal_eq yn mn d h mi s ms (by omega) (by omega)] at this
  exact this

theorem leap_day : mdays 2000 2 = 29 := by decide +kernel
theorem leap_val : momVal 2000 2 29 0 0 0 0 = 951782400000 := by decide +kernel

theorem first_moment (w : World) : Calls Try.prog 9 #[.agg #[.int .i64 2000, .int .i64 2, .int .i64 29, .int .i64 0, .int .i64 0, .int .i64 0, .int .i64 0, .int .i64 0, .int .i64 0, .int .i64 0]] w (MRet 951782400000 0 w) := by
  rw [← leap_val]
  exact moment_6 2000 2 29 0 0 0 0 0 0 0 (by omega) (by omega) (by omega) (by rw [leap_day]; omega) (by omega) (by omega) (by omega) (by omega) w

theorem law_moments (y mo d h mi s ms wd yd md : Int) (w : World) :
    Calls Try.prog 3 #[.agg #[.int .i64 y, .int .i64 mo, .int .i64 d, .int .i64 h, .int .i64 mi, .int .i64 s, .int .i64 ms, .int .i64 wd, .int .i64 yd, .int .i64 md]] w fun e w' => e = .returned (.bool true) ∧ Below w.heap.size w w' := by
  obtain ⟨n, e, hb⟩ := both y mo d h mi s ms wd yd md
  have HB := Lib.hid hb
  clear hb
  go_enter Try.func3, Try.ntmps3
  go_wp2_with fail
  refine (first_moment _).mono ?_
  rintro e1 w1 ⟨rfl, b1⟩
  have q0 : w1.cell? ⟨w.heap.size, 0, none⟩ = some (.int .i64 y) := boxed b1 0
  have q1 : w1.cell? ⟨w.heap.size, 1, none⟩ = some (.int .i64 mo) := boxed b1 1
  have q2 : w1.cell? ⟨w.heap.size, 2, none⟩ = some (.int .i64 d) := boxed b1 2
  have q3 : w1.cell? ⟨w.heap.size, 3, none⟩ = some (.int .i64 h) := boxed b1 3
  have q4 : w1.cell? ⟨w.heap.size, 4, none⟩ = some (.int .i64 mi) := boxed b1 4
  have q5 : w1.cell? ⟨w.heap.size, 5, none⟩ = some (.int .i64 s) := boxed b1 5
  have q6 : w1.cell? ⟨w.heap.size, 6, none⟩ = some (.int .i64 ms) := boxed b1 6
  have q7 : w1.cell? ⟨w.heap.size, 7, none⟩ = some (.int .i64 wd) := boxed b1 7
  have q8 : w1.cell? ⟨w.heap.size, 8, none⟩ = some (.int .i64 yd) := boxed b1 8
  have q9 : w1.cell? ⟨w.heap.size, 9, none⟩ = some (.int .i64 md) := boxed b1 9
  go_wp2_with fail
  refine (HB.out _).1.mono ?_
  rintro e1 w2 ⟨rfl, b2⟩
  have p0 : w2.cell? ⟨w.heap.size, 0, none⟩ = some (.int .i64 y) := by rw [b2.cell (p := ⟨w.heap.size, 0, none⟩) (by have := b1.size; simp at this; exact this)]; exact q0
  have p1 : w2.cell? ⟨w.heap.size, 1, none⟩ = some (.int .i64 mo) := by rw [b2.cell (p := ⟨w.heap.size, 1, none⟩) (by have := b1.size; simp at this; exact this)]; exact q1
  have p2 : w2.cell? ⟨w.heap.size, 2, none⟩ = some (.int .i64 d) := by rw [b2.cell (p := ⟨w.heap.size, 2, none⟩) (by have := b1.size; simp at this; exact this)]; exact q2
  have p3 : w2.cell? ⟨w.heap.size, 3, none⟩ = some (.int .i64 h) := by rw [b2.cell (p := ⟨w.heap.size, 3, none⟩) (by have := b1.size; simp at this; exact this)]; exact q3
  have p4 : w2.cell? ⟨w.heap.size, 4, none⟩ = some (.int .i64 mi) := by rw [b2.cell (p := ⟨w.heap.size, 4, none⟩) (by have := b1.size; simp at this; exact this)]; exact q4
  have p5 : w2.cell? ⟨w.heap.size, 5, none⟩ = some (.int .i64 s) := by rw [b2.cell (p := ⟨w.heap.size, 5, none⟩) (by have := b1.size; simp at this; exact this)]; exact q5
  have p6 : w2.cell? ⟨w.heap.size, 6, none⟩ = some (.int .i64 ms) := by rw [b2.cell (p := ⟨w.heap.size, 6, none⟩) (by have := b1.size; simp at this; exact this)]; exact q6
  have p7 : w2.cell? ⟨w.heap.size, 7, none⟩ = some (.int .i64 wd) := by rw [b2.cell (p := ⟨w.heap.size, 7, none⟩) (by have := b1.size; simp at this; exact this)]; exact q7
  have p8 : w2.cell? ⟨w.heap.size, 8, none⟩ = some (.int .i64 yd) := by rw [b2.cell (p := ⟨w.heap.size, 8, none⟩) (by have := b1.size; simp at this; exact this)]; exact q8
  have p9 : w2.cell? ⟨w.heap.size, 9, none⟩ = some (.int .i64 md) := by rw [b2.cell (p := ⟨w.heap.size, 9, none⟩) (by have := b1.size; simp at this; exact this)]; exact q9
  clear q0 q1 q2 q3 q4 q5 q6 q7 q8 q9
  go_wp2_with fail
  refine (HB.out _).2.mono ?_
  rintro e1 w3 ⟨rfl, b3⟩
  clear p0 p1 p2 p3 p4 p5 p6 p7 p8 p9
  go_wp2_with fail
  go_ret
  refine ⟨ret_bool (by simp), ?_⟩
  have z1 := b1.size
  have z2 := b2.size
  simp at z1
  exact ((((Below.refl _ _).alloc (Nat.le_refl _) _).trans (b1.mono (by simp))).trans (b2.mono (by omega))).trans (b3.mono (by omega))

end Go.Proofs.Ytmgnhekpgeahmaa
