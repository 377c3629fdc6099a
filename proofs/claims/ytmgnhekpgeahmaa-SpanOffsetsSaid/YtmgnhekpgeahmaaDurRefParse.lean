/- weirref03.Parse. -/
import Derived.Test.YtmgnhekpgeahmaaDurParse
namespace Go.Proofs.Ytmgnhekpgeahmaa
open Go.Dur Go.Fl Go.RowKit

theorem parse_of {s : ByteArray} (h : ¬ 64 < s.size) : parseN s = if (meas s 0 0 0).1 = 0 ∨ (meas s 0 0 0).1 < s.size then (0, 30) else if Dur.M < (meas s 0 0 0).2 then (0, 31) else ((meas s 0 0 0).2, 0) := by
  unfold parseN; rw [if_neg h]

theorem nonempty_list {s : ByteArray} (h : s.size ≠ 0) : s.toList.isEmpty = false := by
  rw [ByteArray.toList_eq]
  obtain ⟨⟨l⟩⟩ := s
  cases l with
  | nil => exact absurd rfl h
  | cons a l => rfl

def ParRel (s : ByteArray) (vs vi : Value) : Prop := ∃ e r S : Nat, e ≤ s.size ∧ S ≤ e * 315360000000001 ∧ vi = .int .i64 (e : Int) ∧ vs = .int .i64 (S : Int) ∧ meas s 0 0 0 = meas s e r (min S (Dur.M + 1))

theorem min_step (S p m : Nat) : min (min S m + p) m = min (S + p) m := by omega

set_option maxHeartbeats 1000000 in
theorem refparse_any (s : ByteArray) (w : World) (hs : s.size ≤ 9223372036854775806) : Calls Try.prog 16 #[.string s] w (Same (.tuple #[.int .i64 ((parseN s).1 : Nat), .int .i64 ((parseN s).2 : Nat)]) w) := by
  by_cases hbig : 64 < s.size
  · have hp : parseN s = (0, 1) := by unfold parseN; rw [if_pos hbig]
    rw [hp]
    go_enter Try.func16, Try.ntmps16
    go_wp2_with fail
    go_ret2
    exact ⟨rfl, rfl⟩
  · have HP := Lib.hid (parse_of hbig)
    by_cases h0 : s.size = 0
    · have Hp : Hid (parseN s = (0, 30)) := by
        have := meas_le s
        show _ = _; rw [HP.out, if_pos (.inl (by omega))]
      have hse : s = ⟨#[]⟩ := by
        obtain ⟨⟨l⟩⟩ := s
        have : l.length = 0 := h0
        rw [List.length_eq_zero_iff.1 this]
      subst hse
      clear HP
      go_enter Try.func16, Try.ntmps16
      go_wp2_with fail
      go_ret2
      exact ⟨by rw [Hp.out]; rfl, rfl⟩
    · have hle := meas_le s
      have hnl := nonempty_list h0
      by_cases h1 : (meas s 0 0 0).1 = s.size
      · have HX : Hid (∀ w, Calls Try.prog 17 #[.string s] w (Same (.int .i64 (s.size : Nat)) w)) := fun w => by rw [← h1]; exact refprefix_any s w hs
        have H1 := Lib.hid h1
        have HP2 : Hid (parseN s = if Dur.M < (meas s 0 0 0).2 then (0, 31) else ((meas s 0 0 0).2, 0)) := by show _ = _; rw [HP.out, if_neg (by omega)]
        clear HP h1 hle
        go_enter Try.func16, Try.ntmps16
        go_wp2_with (first | (go_at_call 17; refine (HX.out _).mono ?_; rintro x w' ⟨rfl, rfl⟩))
        go_loop [4, 5] (ParRel s) (fun _ i => s.size - (intOf i).toNat)
        case atStart => exact ⟨0, 0, 0, by omega, by omega, rfl, rfl, rfl⟩
        case round =>
          obtain ⟨e, r, S, he, hS, rfl, rfl, hm⟩ := hrel
          have Hm := Lib.hid hm
          clear hm
          by_cases hlt : e < s.size
          · have hat0 := runE_ge s e
            have hat1 := runE_le s he
            have hfit := unit_fits s (runE s e) hat1
            have hg : goesOn s e r = true := by
              cases hg : goesOn s e r with
              | true => rfl
              | false =>
                have h2 := H1.out
                rw [Hm.out, meas_stop hg] at h2
                exact absurd h2 (by omega)
            have hstep := meas_step (sum := min S (Dur.M + 1)) he hg
            rw [min_step] at hstep
            have hne : runE s e ≠ e := by
              intro h; unfold goesOn at hg; rw [h] at hg; simp at hg
            have hu0 : (unitOf s (runE s e)).1 ≠ 0 := by
              intro h; unfold goesOn at hg; rw [h] at hg; simp at hg
            have Hstep := Lib.hid hstep
            have Hne := Lib.hid hne
            have hms : 0 < (unitOf s (runE s e)).2.1 ∧ (unitOf s (runE s e)).2.1 ≤ 31536000000 := by
              rcases unit_facts s (runE s e) with ⟨h, _⟩ | ⟨_, _, _, _, h⟩
              · exact absurd h hu0
              · rw [h]; exact unitMs_pos _
            have hpart : partN s e = manyN (decN (s.extract e (runE s e)) (s.extract e (runE s e)).size) (unitOf s (runE s e)).2.1 := by rw [size_part s he]; rfl
            have hple : partN s e ≤ 315360000000001 := Nat.le_trans (many_le _ _) M1_le
            have hsz := size_part s he
            have HMany : Hid (∀ w, Calls Try.prog 34 #[.string (s.extract e (runE s e)), .int .i64 ((unitOf s (runE s e)).2.1 : Int)] w (Same (.int .i64 ((partN s e : Nat) : Int)) w)) := fun w => by
              rw [hpart]
              exact many_any _ _ w (by omega) (allD_part s he) hms.1 hms.2
            have HU : Hid (∀ w, Calls Try.prog 33 #[.string s, .int .i64 ((runE s e : Nat) : Int)] w (Same (unitV (unitOf s (runE s e))) w)) := fun w => refunit_any s _ w hs
            clear hg hstep hne hms hpart hsz hu0
            generalize partN s e = p at *
            generalize unitOf s (runE s e) = u at *
            obtain ⟨ul, ums, urk⟩ := u
            dsimp only at *
            generalize hA : runE s e = A at *
            have HA := Lib.hid hA
            clear hA
            go_wp2_with (first | (go_at_call 32; refine (refrun_any s _ _ he hs).mono ?_; rintro x w' ⟨rfl, rfl⟩; rw [HA.out]) | (go_at_call 33; refine (HU.out _).mono ?_; rintro x w' ⟨rfl, rfl⟩; unfold unitV) | (go_at_call 34; refine (HMany.out _).mono ?_; rintro x w' ⟨rfl, rfl⟩))
            refine ⟨⟨A + ul, urk, S + p, hfit, ?_, by simp, by simp, by rw [Hm.out, Hstep.out]⟩, ?_⟩
            · have := Hne.out
              have h3 : (e + 1) * 315360000000001 ≤ (A + ul) * 315360000000001 := Nat.mul_le_mul_right _ (by omega)
              omega
            · have := Hne.out
              simp [intOf]; omega
          · have Hend : Hid ((meas s 0 0 0).2 = min S (Dur.M + 1)) := by
              show _ = _
              rw [Hm.out, meas_stop]
              have : runE s e = e := runE_stop (by omega)
              simp [goesOn, this]
            by_cases hbigS : 315360000000000 < S
            · have Hp : Hid (parseN s = (0, 31)) := by show _ = _; rw [HP2.out, if_pos (by rw [Hend.out]; unfold Dur.M; omega)]
              go_wp2_with fail
              go_ret2
              exact ⟨by rw [Hp.out]; rfl, rfl⟩
            · have Hp : Hid (parseN s = (S, 0)) := by
                have h5 : min S (Dur.M + 1) = S := Nat.min_eq_left (by unfold Dur.M; omega)
                show _ = _; rw [HP2.out, Hend.out, h5, if_neg (by unfold Dur.M; omega)]
              go_wp2_with fail
              go_ret2
              exact ⟨by rw [Hp.out]; rfl, rfl⟩
      · have Hp : Hid (parseN s = (0, 30)) := by show _ = _; rw [HP.out, if_pos (.inr (by omega))]
        have hne : (((meas s 0 0 0).1 : Int) == (s.size : Int)) = false := by simp; omega
        have HX : Hid (∀ w, Calls Try.prog 17 #[.string s] w (Same (.int .i64 ((meas s 0 0 0).1 : Nat)) w)) := fun w => refprefix_any s w hs
        clear HP h1
        generalize (meas s 0 0 0).1 = E at *
        go_enter Try.func16, Try.ntmps16
        go_wp2_with (first | (go_at_call 17; refine (HX.out _).mono ?_; rintro x w' ⟨rfl, rfl⟩))
        go_ret2
        exact ⟨by rw [Hp.out]; rfl, rfl⟩

end Go.Proofs.Ytmgnhekpgeahmaa
