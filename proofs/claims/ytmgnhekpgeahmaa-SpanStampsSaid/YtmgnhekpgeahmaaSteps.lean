/- Step on both sides; SpanStamps returns true whatever comes in. -/
import Derived.Test.YtmgnhekpgeahmaaStamps
namespace Go.Proofs.Ytmgnhekpgeahmaa
open Go.Dur Go.Fl Go.RowKit

set_option maxHeartbeats 2000000 in
theorem step_any (s : ByteArray) (w : World) (hs : s.size ≤ 9223372036854775806) : Calls Try.prog 21 #[.string s] w (MRet (stepN s).1 (stepN s).2 w) := by
  by_cases hbig : 64 < s.size
  · have hp : stepN s = (0, 1) := by unfold stepN; rw [if_pos hbig]
    rw [hp]
    go_enter Try.func21, Try.ntmps21
    go_wp2_with fail
    go_ret2
    exact ⟨rfl, Below.refl _ _⟩
  · have HP := Lib.hid (fun w => plain_any s w hs)
    have HM := Lib.hid (fun w => measure_any s w hs)
    have hle := meas_le s
    have HS : Hid (stepN s = if (meas s 0 0 0).1 = 0 ∨ (meas s 0 0 0).1 < s.size then (if secOk s = true then st2 (plainN s) else (0, 30)) else st2 ((meas s 0 0 0).2 : Nat)) := by show _ = _; unfold stepN; rw [if_neg hbig]
    unfold measV at HM
    generalize meas s 0 0 0 = m at *
    obtain ⟨e, sum⟩ := m
    dsimp only at *
    by_cases hfail : e = 0 ∨ e < s.size
    · cases hok : secOk s
      · have hV : plainV s = .tuple #[.int .i64 0, .bool false] := by unfold plainV; rw [if_neg (by rw [hok]; simp)]
        rw [hV] at HP
        have hp : stepN s = (0, 30) := by rw [HS.out, if_pos hfail, if_neg (by rw [hok]; simp)]
        rw [hp]
        clear hok hV hp HS
        rcases (show e = 0 ∨ (((e : Int) == 0) = false ∧ e < s.size) from by
          by_cases h0 : e = 0
          · exact .inl h0
          · exact .inr ⟨by simp; omega, by omega⟩) with h0 | ⟨h0, h1⟩
        · subst h0
          clear hfail
          go_enter Try.func21, Try.ntmps21
          go_wp2_with (first | (go_at_call 31; refine (HM.out _).mono ?_; rintro x w' ⟨rfl, n1, rfl⟩) | (go_at_call 35; refine (HP.out _).mono ?_; rintro x w1 ⟨rfl, b1⟩))
          go_ret2
          exact ⟨rfl, ((Below.refl _ _).drewN' n1).trans (b1.mono (Nat.le_refl _))⟩
        · clear hfail
          go_enter Try.func21, Try.ntmps21
          go_wp2_with (first | (go_at_call 31; refine (HM.out _).mono ?_; rintro x w' ⟨rfl, n1, rfl⟩) | (go_at_call 35; refine (HP.out _).mono ?_; rintro x w1 ⟨rfl, b1⟩))
          go_ret2
          exact ⟨rfl, ((Below.refl _ _).drewN' n1).trans (b1.mono (Nat.le_refl _))⟩
      · have hV : plainV s = .tuple #[.int .i64 (plainN s), .bool true] := by unfold plainV; rw [if_pos hok]
        rw [hV] at HP
        have hp : stepN s = st2 (plainN s) := by rw [HS.out, if_pos hfail, if_pos hok]
        have hr := st2_cases (plainN s)
        rw [← hp] at hr
        clear hok hV hp HS
        generalize plainN s = v at *
        rcases (show e = 0 ∨ (((e : Int) == 0) = false ∧ e < s.size) from by
          by_cases h0 : e = 0
          · exact .inl h0
          · exact .inr ⟨by simp; omega, by omega⟩) with h0 | ⟨h0, h1⟩
        · subst h0
          clear hfail
          rcases hr with ⟨r1, r2⟩ | ⟨r1, r3, r2⟩ | ⟨r1, r3, r2⟩
          all_goals
            rw [r2]
            clear r2
            go_enter Try.func21, Try.ntmps21
            go_wp2_with (first | (go_at_call 31; refine (HM.out _).mono ?_; rintro x w' ⟨rfl, n1, rfl⟩) | (go_at_call 35; refine (HP.out _).mono ?_; rintro x w1 ⟨rfl, b1⟩))
            go_ret2
            exact ⟨rfl, ((Below.refl _ _).drewN' n1).trans (b1.mono (Nat.le_refl _))⟩
        · clear hfail
          rcases hr with ⟨r1, r2⟩ | ⟨r1, r3, r2⟩ | ⟨r1, r3, r2⟩
          all_goals
            rw [r2]
            clear r2
            go_enter Try.func21, Try.ntmps21
            go_wp2_with (first | (go_at_call 31; refine (HM.out _).mono ?_; rintro x w' ⟨rfl, n1, rfl⟩) | (go_at_call 35; refine (HP.out _).mono ?_; rintro x w1 ⟨rfl, b1⟩))
            go_ret2
            exact ⟨rfl, ((Below.refl _ _).drewN' n1).trans (b1.mono (Nat.le_refl _))⟩
    · have hp : stepN s = st2 (sum : Int) := by rw [HS.out, if_neg hfail]
      have h0 : ((e : Int) == 0) = false := by simp; omega
      have h1 : ¬ e < s.size := by omega
      have hr := st2_cases (sum : Int)
      rw [← hp] at hr
      clear hp HS HP hfail
      rcases hr with ⟨r1, r2⟩ | ⟨r1, r3, r2⟩ | ⟨r1, r3, r2⟩
      all_goals
        rw [r2]
        clear r2
        go_enter Try.func21, Try.ntmps21
        go_wp2_with (first | (go_at_call 31; refine (HM.out _).mono ?_; rintro x w' ⟨rfl, n1, rfl⟩))
        go_ret2
        exact ⟨rfl, (Below.refl _ _).drewN' _⟩

set_option maxHeartbeats 2000000 in
theorem refstep_any (s : ByteArray) (w : World) (hs : s.size ≤ 9223372036854775806) : Calls Try.prog 23 #[.string s] w (MRet (stepN s).1 (stepN s).2 w) := by
  by_cases hbig : 64 < s.size
  · have hp : stepN s = (0, 1) := by unfold stepN; rw [if_pos hbig]
    rw [hp]
    go_enter Try.func23, Try.ntmps23
    go_wp2_with fail
    go_ret2
    exact ⟨rfl, Below.refl _ _⟩
  · have HP := Lib.hid (fun w => seconds_any s w hs)
    have HQ := Lib.hid (fun w => refparse_any s w hs)
    have HS : Hid (stepN s = if (meas s 0 0 0).1 = 0 ∨ (meas s 0 0 0).1 < s.size then (if secOk s = true then st2 (plainN s) else (0, 30)) else st2 ((meas s 0 0 0).2 : Nat)) := by show _ = _; unfold stepN; rw [if_neg hbig]
    have hpo := parse_of hbig
    by_cases hfail : (meas s 0 0 0).1 = 0 ∨ (meas s 0 0 0).1 < s.size
    · rw [if_pos hfail] at hpo
      rw [hpo] at HQ
      cases hok : secOk s
      · have hV : secV s = .tuple #[.bool false, .string ⟨#[]⟩, .string ⟨#[]⟩, .bool false] := by unfold secV; rw [if_neg (by rw [hok]; simp)]
        rw [hV] at HP
        have hp : stepN s = (0, 30) := by rw [HS.out, if_pos hfail, if_neg (by rw [hok]; simp)]
        rw [hp]
        clear hok hV hp HS hfail hpo
        go_enter Try.func23, Try.ntmps23
        go_wp2_with (first | (go_at_call 16; refine (HQ.out _).mono ?_; rintro x w' ⟨rfl, rfl⟩) | (go_at_call 39; refine (HP.out _).mono ?_; rintro x w' ⟨rfl, n1, rfl⟩))
        go_ret2
        exact ⟨rfl, (Below.refl _ _).drewN' _⟩
      · have hV : secV s = .tuple #[.bool (minusB s), .string (wholeS s), .string (fracS s), .bool true] := by unfold secV; rw [if_pos hok]
        rw [hV] at HP
        have hp : stepN s = st2 (nearN (minusB s) (wholeS s) (fracS s)) := by rw [HS.out, if_pos hfail, if_pos hok, st2_near]
        have hr := st2_cases (nearN (minusB s) (wholeS s) (fracS s))
        rw [← hp] at hr
        have HN : Hid (∀ w, Calls Try.prog 40 #[.bool (minusB s), .string (wholeS s), .string (fracS s)] w (SameD (.int .i64 (nearN (minusB s) (wholeS s) (fracS s))) w)) := fun w => near_any _ _ _ w (by have := size_whole s; have := secJ_le s; omega) (by have := frac_size s; omega) (allD_whole s) (allD_frac s hok)
        clear hok hV hp HS hfail hpo
        generalize nearN (minusB s) (wholeS s) (fracS s) = v at *
        rcases hr with ⟨r1, r2⟩ | ⟨r1, r3, r2⟩ | ⟨r1, r3, r2⟩
        all_goals
          rw [r2]
          clear r2
          go_enter Try.func23, Try.ntmps23
          go_wp2_with (first | (go_at_call 16; refine (HQ.out _).mono ?_; rintro x w' ⟨rfl, rfl⟩) | (go_at_call 39; refine (HP.out _).mono ?_; rintro x w' ⟨rfl, n1, rfl⟩) | (go_at_call 40; refine (HN.out _).mono ?_; rintro x w' ⟨rfl, n2, rfl⟩))
          go_ret2
          exact ⟨rfl, (Below.refl _ _).drewN' _⟩
    · rw [if_neg hfail] at hpo
      have hp : stepN s = st2 (((meas s 0 0 0).2 : Nat) : Int) := by rw [HS.out, if_neg hfail]
      have hr := st2_cases (((meas s 0 0 0).2 : Nat) : Int)
      rw [← hp] at hr
      clear hp HS HP hfail
      generalize (meas s 0 0 0).2 = sum at *
      by_cases hM : Dur.M < sum
      · rw [if_pos hM] at hpo
        rw [hpo] at HQ
        have hM2 : 315360000000000 < sum := hM
        have hs2 : stepN s = (0, 31) := by
          rcases hr with ⟨r1, r2⟩ | ⟨r1, r3, r2⟩ | ⟨r1, r3, r2⟩
          · omega
          · exact r2
          · omega
        rw [hs2]
        clear hr hM hM2 hs2 hpo
        go_enter Try.func23, Try.ntmps23
        go_wp2_with (first | (go_at_call 16; refine (HQ.out _).mono ?_; rintro x w' ⟨rfl, rfl⟩))
        go_ret2
        exact ⟨rfl, Below.refl _ _⟩
      · rw [if_neg hM] at hpo
        rw [hpo] at HQ
        have hM2 : ¬ 315360000000000 < sum := hM
        clear hM hpo
        rcases hr with ⟨r1, r2⟩ | ⟨r1, r3, r2⟩ | ⟨r1, r3, r2⟩
        · rw [r2]
          clear r2
          go_enter Try.func23, Try.ntmps23
          go_wp2_with (first | (go_at_call 16; refine (HQ.out _).mono ?_; rintro x w' ⟨rfl, rfl⟩))
          go_ret2
          exact ⟨rfl, Below.refl _ _⟩
        · exact absurd r3 (by omega)
        · rw [r2]
          clear r2
          go_enter Try.func23, Try.ntmps23
          go_wp2_with (first | (go_at_call 16; refine (HQ.out _).mono ?_; rintro x w' ⟨rfl, rfl⟩))
          go_ret2
          exact ⟨rfl, Below.refl _ _⟩

theorem stamp_first : stN ⟨#[49, 46, 48, 48, 48, 53]⟩ = (1001, 0) := by decide +kernel
theorem step_first : stepN ⟨#[49, 53]⟩ = (15000, 0) := by decide +kernel

theorem law_stamps (s : ByteArray) (w : World) (hs : s.size ≤ 9223372036854775806) : Calls Try.prog 8 #[.string s] w fun e w' => e = .returned (.bool true) ∧ Below w.heap.size w w' := by
  have HA := Lib.hid (fun w => stamp_any s w hs)
  have HB := Lib.hid (fun w => refstamp_any s w hs)
  have HC := Lib.hid (fun w => step_any s w hs)
  have HD := Lib.hid (fun w => refstep_any s w hs)
  generalize stN s = p at *
  generalize stepN s = q at *
  obtain ⟨a, b⟩ := p
  obtain ⟨c, d⟩ := q
  dsimp only at *
  go_enter Try.func8, Try.ntmps8
  go_wp2_with fail
  refine (stamp_any _ _ (by decide)).mono ?_
  rintro x w1 ⟨rfl, b1⟩
  rw [stamp_first]
  go_wp2_with fail
  refine (step_any _ _ (by decide)).mono ?_
  rintro x w2 ⟨rfl, b2⟩
  rw [step_first]
  go_wp2_with fail
  refine (HA.out _).mono ?_
  rintro x w3 ⟨rfl, b3⟩
  go_wp2_with fail
  refine (HB.out _).mono ?_
  rintro x w4 ⟨rfl, b4⟩
  go_wp2_with fail
  refine (HC.out _).mono ?_
  rintro x w5 ⟨rfl, b5⟩
  go_wp2_with fail
  refine (HD.out _).mono ?_
  rintro x w6 ⟨rfl, b6⟩
  go_wp2_with fail
  go_ret
  have c1 := b1.trans (b2.mono b1.size)
  have c2 := c1.trans (b3.mono c1.size)
  have c3 := c2.trans (b4.mono c2.size)
  have c4 := c3.trans (b5.mono c3.size)
  exact ⟨ret_bool (by simp), c4.trans (b6.mono c4.size)⟩

end Go.Proofs.Ytmgnhekpgeahmaa
