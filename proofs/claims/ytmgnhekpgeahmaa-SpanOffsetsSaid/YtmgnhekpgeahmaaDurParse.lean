/- Parse and Prefix on both sides. -/
import Derived.Test.YtmgnhekpgeahmaaDurMeas
namespace Go.Proofs.Ytmgnhekpgeahmaa
open Go.Dur Go.Fl Go.RowKit

def parseN (s : ByteArray) : Nat × Nat :=
  if 64 < s.size then (0, 1) else if (meas s 0 0 0).1 = 0 ∨ (meas s 0 0 0).1 < s.size then (0, 30) else if Dur.M < (meas s 0 0 0).2 then (0, 31) else ((meas s 0 0 0).2, 0)

theorem meas_le (s : ByteArray) : (meas s 0 0 0).1 ≤ s.size := by
  have : ∀ f e r sum, e ≤ s.size → (measF s f e r sum).1 ≤ s.size := by
    intro f
    induction f with
    | zero => intro e r sum he; exact he
    | succ f ih =>
      intro e r sum he
      rw [measF]
      split
      · exact ih _ _ _ (unit_fits s _ (runE_le s he))
      · exact he
  exact this _ _ _ _ (Nat.zero_le _)
theorem meas_sum_le (s : ByteArray) : (meas s 0 0 0).2 ≤ 315360000000001 := by
  have : ∀ f e r sum, sum ≤ Dur.M + 1 → (measF s f e r sum).2 ≤ Dur.M + 1 := by
    intro f
    induction f with
    | zero => intro e r sum he; exact he
    | succ f ih =>
      intro e r sum he
      rw [measF]
      split
      · exact ih _ _ _ (by omega)
      · exact he
  exact Nat.le_trans (this _ _ _ _ (Nat.zero_le _)) M1_le

theorem prefix_any (s : ByteArray) (w : World) (hs : s.size ≤ 9223372036854775806) : Calls Try.prog 15 #[.string s] w (SameD (.int .i64 ((meas s 0 0 0).1 : Nat)) w) := by
  go_enter Try.func15, Try.ntmps15
  go_wp2_with (first | (go_at_call 31; refine (measure_any s _ hs).mono ?_; rintro x w' ⟨rfl, n2, rfl⟩; unfold measV))
  go_ret
  exact ⟨rfl, _, rfl⟩

theorem parse_any (s : ByteArray) (w : World) (hs : s.size ≤ 9223372036854775806) : Calls Try.prog 14 #[.string s] w (SameD (.tuple #[.int .i64 ((parseN s).1 : Nat), .int .i64 ((parseN s).2 : Nat)]) w) := by
  by_cases hbig : 64 < s.size
  · have hp : parseN s = (0, 1) := by unfold parseN; rw [if_pos hbig]
    rw [hp]
    go_enter Try.func14, Try.ntmps14
    go_wp2_with fail
    go_ret2
    exact ⟨rfl, 0, rfl⟩
  · have hle := meas_le s
    have hsm := meas_sum_le s
    have HP : Hid (parseN s = if (meas s 0 0 0).1 = 0 ∨ (meas s 0 0 0).1 < s.size then (0, 30) else if Dur.M < (meas s 0 0 0).2 then (0, 31) else ((meas s 0 0 0).2, 0)) := by show _ = _; unfold parseN; rw [if_neg hbig]
    have HM : Hid (∀ w, Calls Try.prog 31 #[.string s] w (SameD (measV (meas s 0 0 0)) w)) := fun w => measure_any s w hs
    generalize meas s 0 0 0 = m at *
    obtain ⟨e, sum⟩ := m
    dsimp only at *
    by_cases h1 : e = 0
    · have Hp : Hid (parseN s = (0, 30)) := by show _ = _; rw [HP.out, if_pos (.inl h1)]
      subst h1
      clear HP
      go_enter Try.func14, Try.ntmps14
      go_wp2_with (first | (go_at_call 31; refine (HM.out _).mono ?_; rintro x w' ⟨rfl, n2, rfl⟩; unfold measV))
      go_ret2
      exact ⟨by rw [Hp.out]; rfl, _, rfl⟩
    · have he0 : ((e : Int) == 0) = false := by simp; omega
      by_cases h2 : e < s.size
      · have Hp : Hid (parseN s = (0, 30)) := by show _ = _; rw [HP.out, if_pos (.inr h2)]
        clear HP h1
        go_enter Try.func14, Try.ntmps14
        go_wp2_with (first | (go_at_call 31; refine (HM.out _).mono ?_; rintro x w' ⟨rfl, n2, rfl⟩; unfold measV))
        go_ret2
        exact ⟨by rw [Hp.out]; rfl, _, rfl⟩
      · by_cases h3 : 315360000000000 < sum
        · have Hp : Hid (parseN s = (0, 31)) := by show _ = _; rw [HP.out, if_neg (by omega), if_pos (show Dur.M < sum by unfold Dur.M; omega)]
          clear HP h1
          go_enter Try.func14, Try.ntmps14
          go_wp2_with (first | (go_at_call 31; refine (HM.out _).mono ?_; rintro x w' ⟨rfl, n2, rfl⟩; unfold measV))
          go_ret2
          exact ⟨by rw [Hp.out]; rfl, _, rfl⟩
        · have Hp : Hid (parseN s = (sum, 0)) := by show _ = _; rw [HP.out, if_neg (by omega), if_neg (show ¬ Dur.M < sum by unfold Dur.M; omega)]
          clear HP h1
          go_enter Try.func14, Try.ntmps14
          go_wp2_with (first | (go_at_call 31; refine (HM.out _).mono ?_; rintro x w' ⟨rfl, n2, rfl⟩; unfold measV))
          go_ret2
          exact ⟨by rw [Hp.out]; rfl, _, rfl⟩

def PreRel (s : ByteArray) (ve vr : Value) : Prop := ∃ e r : Nat, e ≤ s.size ∧ r ≤ 7 ∧ ve = .int .i64 (e : Int) ∧ vr = .int .i64 (r : Int) ∧ (meas s 0 0 0).1 = (meas s e r 0).1

theorem meas_fst (s : ByteArray) (e r a b : Nat) : (meas s e r a).1 = (meas s e r b).1 := measF_fst s _ e r a b

set_option maxHeartbeats 1000000 in
theorem refprefix_any (s : ByteArray) (w : World) (hs : s.size ≤ 9223372036854775806) : Calls Try.prog 17 #[.string s] w (Same (.int .i64 ((meas s 0 0 0).1 : Nat)) w) := by
  go_enter Try.func17, Try.ntmps17
  go_wp2_with fail
  go_loop [3, 4] (PreRel s) (fun e _ => s.size - (intOf e).toNat)
  case atStart => exact ⟨0, 0, by omega, by omega, rfl, rfl, rfl⟩
  case round =>
    obtain ⟨e, r, he, hr, rfl, rfl, hm⟩ := hrel
    have Hm := Lib.hid hm
    clear hm
    by_cases hlt : e < s.size
    · have hat0 := runE_ge s e
      have hat1 := runE_le s he
      have hfit := unit_fits s (runE s e) hat1
      have HS1 : Hid (runE s e = e ∨ (unitOf s (runE s e)).1 = 0 ∨ (unitOf s (runE s e)).2.2 ≤ r → (meas s e r 0).1 = e) := fun h => by
        rw [meas_stop]
        unfold goesOn
        rcases h with h | h | h
        · rw [h]; simp
        · rw [h]; simp
        · simp; omega
      have HG : Hid (runE s e ≠ e → (unitOf s (runE s e)).1 ≠ 0 → r < (unitOf s (runE s e)).2.2 → (meas s e r 0).1 = (meas s (runE s e + (unitOf s (runE s e)).1) (unitOf s (runE s e)).2.2 0).1) := fun h1 h2 h3 => by
        rw [meas_step he (by unfold goesOn; simp only [Bool.and_eq_true, decide_eq_true_eq]; exact ⟨⟨h1, h2⟩, h3⟩)]
        exact meas_fst s _ _ _ _
      have hrk7 : (unitOf s (runE s e)).2.2 ≤ 7 := by
        unfold unitOf; repeat' split
        all_goals (try dsimp only); omega
      have HU : Hid (∀ w, Calls Try.prog 33 #[.string s, .int .i64 ((runE s e : Nat) : Int)] w (Same (unitV (unitOf s (runE s e))) w)) := fun w => refunit_any s _ w hs
      generalize unitOf s (runE s e) = u at *
      obtain ⟨ul, ums, urk⟩ := u
      dsimp only at *
      generalize hA : runE s e = A at *
      have HA := Lib.hid hA
      clear hA
      by_cases h1 : A = e
      · have Hstop := Lib.hid (HS1.out (.inl h1))
        clear HS1 HG hfit
        have h1' := h1.symm
        clear h1
        subst h1'
        go_wp2_with (first | (go_at_call 32; refine (refrun_any s _ _ he hs).mono ?_; rintro x w' ⟨rfl, rfl⟩; rw [HA.out]) | (go_at_call 33; refine (HU.out _).mono ?_; rintro x w' ⟨rfl, rfl⟩; unfold unitV))
        go_ret
        exact ⟨by rw [Hm.out, Hstop.out]; rfl, rfl⟩
      · have hae : ((A : Int) == (e : Int)) = false := by simp; omega
        by_cases h2 : ul = 0
        · have Hstop := Lib.hid (HS1.out (.inr (.inl h2)))
          clear HS1 HG hfit h1
          subst h2
          go_wp2_with (first | (go_at_call 32; refine (refrun_any s _ _ he hs).mono ?_; rintro x w' ⟨rfl, rfl⟩; rw [HA.out]) | (go_at_call 33; refine (HU.out _).mono ?_; rintro x w' ⟨rfl, rfl⟩; unfold unitV))
          go_ret
          exact ⟨by rw [Hm.out, Hstop.out]; rfl, rfl⟩
        · have hu0 : ((ul : Int) == 0) = false := by simp; omega
          by_cases h3 : urk ≤ r
          · have Hstop := Lib.hid (HS1.out (.inr (.inr h3)))
            clear HS1 HG hfit h1 h2
            go_wp2_with (first | (go_at_call 32; refine (refrun_any s _ _ he hs).mono ?_; rintro x w' ⟨rfl, rfl⟩; rw [HA.out]) | (go_at_call 33; refine (HU.out _).mono ?_; rintro x w' ⟨rfl, rfl⟩; unfold unitV))
            go_ret
            exact ⟨by rw [Hm.out, Hstop.out]; rfl, rfl⟩
          · have Hgo := Lib.hid (HG.out h1 h2 (by omega))
            have H1 := Lib.hid h1
            clear HS1 HG h1 h2
            go_wp2_with (first | (go_at_call 32; refine (refrun_any s _ _ he hs).mono ?_; rintro x w' ⟨rfl, rfl⟩; rw [HA.out]) | (go_at_call 33; refine (HU.out _).mono ?_; rintro x w' ⟨rfl, rfl⟩; unfold unitV))
            refine ⟨⟨A + ul, urk, hfit, hrk7, by simp, rfl, by rw [Hm.out, Hgo.out]⟩, ?_⟩
            have := H1.out
            simp [intOf]; omega
    · have hk : e = s.size := by omega
      have Hstop : Hid ((meas s e r 0).1 = e) := by
        show _ = _
        rw [meas_stop]
        have : runE s e = e := runE_stop (by omega)
        simp [goesOn, this]
      clear hk
      go_wp2_with fail
      go_ret
      exact ⟨by rw [Hm.out, Hstop.out]; rfl, rfl⟩

end Go.Proofs.Ytmgnhekpgeahmaa
