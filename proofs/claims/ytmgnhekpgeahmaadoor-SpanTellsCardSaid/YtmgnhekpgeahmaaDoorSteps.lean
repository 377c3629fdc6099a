/- Step on both sides; SpanStamps returns true whatever comes in. -/
import Derived.Test.YtmgnhekpgeahmaaDoorStamps
namespace Go.Proofs.YtmgnhekpgeahmaaDoor
open Go.Dur Go.Fl Go.RowKit

set_option maxHeartbeats 2000000 in
theorem step_any (s : ByteArray) (w : World) (hs : s.size ≤ 9223372036854775806) : Calls Tryd.prog 15 #[.string s] w (MRet (stepN s).1 (stepN s).2 w) := by
  by_cases hbig : 64 < s.size
  · have hp : stepN s = (0, 1) := by unfold stepN; rw [if_pos hbig]
    rw [hp]
    go_enter Tryd.func15, Tryd.ntmps15
    go_wp2_with fail
    go_ret2
    exact ⟨rfl, Below.refl _ _⟩
  · have HP := Lib.hid (fun w => plain_any s w hs)
    have HM := Lib.hid (fun w => measure_any s w hs)
    have hle := meas_le s
    have HS : Hid (stepN s = if (meas s 0 0 0).1 = 0 ∨ (meas s 0 0 0).1 < s.size then (if secOk s = true then st2 (plainN s) else (0, 30)) else st2 ((meas s 0 0 0).2 : Nat)) := by show _ = _; unfold stepN; rw [if_neg hbig]
    unfold measV at HM
    generalize meas s 0 0 0 = m at *
    obtain ⟨e, sum⟩ := m
    dsimp only at *
    by_cases hfail : e = 0 ∨ e < s.size
    · cases hok : secOk s
      · have hV : plainV s = .tuple #[.int .i64 0, .bool false] := by unfold plainV; rw [if_neg (by rw [hok]; simp)]
        rw [hV] at HP
        have hp : stepN s = (0, 30) := by rw [HS.out, if_pos hfail, if_neg (by rw [hok]; simp)]
        rw [hp]
        clear hok hV hp HS
        rcases (show e = 0 ∨ (((e : Int) == 0) = false ∧ e < s.size) from by
          by_cases h0 : e = 0
          · exact .inl h0
          · exact .inr ⟨by simp; omega, by omega⟩) with h0 | ⟨h0, h1⟩
        · subst h0
          clear hfail
          go_enter Tryd.func15, Tryd.ntmps15
          go_wp2_with (first | (go_at_call 33; refine (HM.out _).mono ?_; rintro x w' ⟨rfl, n1, rfl⟩) | (go_at_call 34; refine (HP.out _).mono ?_; rintro x w1 ⟨rfl, b1⟩))
          go_ret2
          exact ⟨rfl, ((Below.refl _ _).drewN' n1).trans (b1.mono (Nat.le_refl _))⟩
        · clear hfail
          go_enter Tryd.func15, Tryd.ntmps15
          go_wp2_with (first | (go_at_call 33; refine (HM.out _).mono ?_; rintro x w' ⟨rfl, n1, rfl⟩) | (go_at_call 34; refine (HP.out _).mono ?_; rintro x w1 ⟨rfl, b1⟩))
          go_ret2
          exact ⟨rfl, ((Below.refl _ _).drewN' n1).trans (b1.mono (Nat.le_refl _))⟩
      · have hV : plainV s = .tuple #[.int .i64 (plainN s), .bool true] := by unfold plainV; rw [if_pos hok]
        rw [hV] at HP
        have hp : stepN s = st2 (plainN s) := by rw [HS.out, if_pos hfail, if_pos hok]
        have hr := st2_cases (plainN s)
        rw [← hp] at hr
        clear hok hV hp HS
        generalize plainN s = v at *
        rcases (show e = 0 ∨ (((e : Int) == 0) = false ∧ e < s.size) from by
          by_cases h0 : e = 0
          · exact .inl h0
          · exact .inr ⟨by simp; omega, by omega⟩) with h0 | ⟨h0, h1⟩
        · subst h0
          clear hfail
          rcases hr with ⟨r1, r2⟩ | ⟨r1, r3, r2⟩ | ⟨r1, r3, r2⟩
          all_goals
            rw [r2]
            clear r2
            go_enter Tryd.func15, Tryd.ntmps15
            go_wp2_with (first | (go_at_call 33; refine (HM.out _).mono ?_; rintro x w' ⟨rfl, n1, rfl⟩) | (go_at_call 34; refine (HP.out _).mono ?_; rintro x w1 ⟨rfl, b1⟩))
            go_ret2
            exact ⟨rfl, ((Below.refl _ _).drewN' n1).trans (b1.mono (Nat.le_refl _))⟩
        · clear hfail
          rcases hr with ⟨r1, r2⟩ | ⟨r1, r3, r2⟩ | ⟨r1, r3, r2⟩
          all_goals
            rw [r2]
            clear r2
            go_enter Tryd.func15, Tryd.ntmps15
            go_wp2_with (first | (go_at_call 33; refine (HM.out _).mono ?_; rintro x w' ⟨rfl, n1, rfl⟩) | (go_at_call 34; refine (HP.out _).mono ?_; rintro x w1 ⟨rfl, b1⟩))
            go_ret2
            exact ⟨rfl, ((Below.refl _ _).drewN' n1).trans (b1.mono (Nat.le_refl _))⟩
    · have hp : stepN s = st2 (sum : Int) := by rw [HS.out, if_neg hfail]
      have h0 : ((e : Int) == 0) = false := by simp; omega
      have h1 : ¬ e < s.size := by omega
      have hr := st2_cases (sum : Int)
      rw [← hp] at hr
      clear hp HS HP hfail
      rcases hr with ⟨r1, r2⟩ | ⟨r1, r3, r2⟩ | ⟨r1, r3, r2⟩
      all_goals
        rw [r2]
        clear r2
        go_enter Tryd.func15, Tryd.ntmps15
        go_wp2_with (first | (go_at_call 33; refine (HM.out _).mono ?_; rintro x w' ⟨rfl, n1, rfl⟩))
        go_ret2
        exact ⟨rfl, (Below.refl _ _).drewN' _⟩

theorem stamp_first : stN ⟨#[49, 46, 48, 48, 48, 53]⟩ = (1001, 0) := by decide +kernel
theorem step_first : stepN ⟨#[49, 53]⟩ = (15000, 0) := by decide +kernel

end Go.Proofs.YtmgnhekpgeahmaaDoor
