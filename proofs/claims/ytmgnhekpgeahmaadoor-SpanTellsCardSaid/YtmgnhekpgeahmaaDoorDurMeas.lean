/- measure: the parts of a duration. -/
import Derived.Test.YtmgnhekpgeahmaaDoorDurUnitAt
import Derived.Test.YtmgnhekpgeahmaaDoorDurNum
namespace Go.Proofs.YtmgnhekpgeahmaaDoor
open Go.Dur Go.Fl Go.RowKit

theorem unit_facts (s : ByteArray) (i : Nat) : ((unitOf s i).1 = 0 ∧ uix (unitOf s i) = 7) ∨ (1 ≤ (unitOf s i).1 ∧ (unitOf s i).1 ≤ 2 ∧ uix (unitOf s i) ≤ 6 ∧ (unitOf s i).2.2 = uix (unitOf s i) + 1 ∧ (unitOf s i).2.1 = unitMs (uix (unitOf s i))) := by
  by_cases hlt : i < s.size
  · have hU := unit_at s hlt
    generalize unitOf s i = u at hU
    cases hU <;> first | exact .inl ⟨rfl, rfl⟩ | exact .inr ⟨by decide, by decide, by decide, rfl, rfl⟩
  · have hu : unitOf s i = (0, 0, 0) := by unfold unitOf; rw [if_pos (by omega)]
    rw [hu]; exact .inl ⟨rfl, rfl⟩

theorem unitMs_pos (u : Nat) : 0 < unitMs u ∧ unitMs u ≤ 31536000000 := by
  unfold unitMs; split <;> omega

theorem allD_part (s : ByteArray) {e : Nat} (h : e ≤ s.size) : AllD (s.extract e (runE s e)) := by
  intro i hi
  rw [ByteArray.size_extract] at hi
  have h2 := runE_le s h
  rw [Nat.min_eq_left h2] at hi
  rw [bt_extract s h2 hi]
  exact runE_dig s (i := e) (k := e + i) (by omega) (by omega)

theorem size_part (s : ByteArray) {e : Nat} (h : e ≤ s.size) : (s.extract e (runE s e)).size = runE s e - e := by
  have h2 := runE_le s h
  rw [ByteArray.size_extract]; omega

def MeasRel (s : ByteArray) (w : World) (ve vs vn : Value) (wr : World) : Prop :=
  ∃ e r sum n : Nat, e ≤ s.size ∧ r ≤ 7 ∧ sum ≤ 315360000000001 ∧ ve = .int .i64 (e : Int) ∧ vs = .int .i64 (sum : Int) ∧ vn = .int .i64 (r : Int) ∧ wr = w.drewN n ∧ meas s 0 0 0 = meas s e r sum

theorem min_top (a m : Nat) : min (a + (m + 1)) (m + 1) = m + 1 := by omega
theorem M1_int : ((Dur.M + 1 : Nat) : Int) = 315360000000001 := by decide
theorem M1_le : Dur.M + 1 ≤ 315360000000001 := by unfold Dur.M; omega

def measV (p : Nat × Nat) : Value := .tuple #[.int .i64 (p.1 : Int), .int .i64 (p.2 : Int)]

set_option maxHeartbeats 2000000 in
theorem measure_any (s : ByteArray) (w : World) (hs : s.size ≤ 9223372036854775806) : Calls Tryd.prog 33 #[.string s] w (SameD (measV (meas s 0 0 0)) w) := by
  go_enter Tryd.func33, Tryd.ntmps33
  go_wp2_with fail
  go_loopw [4, 5, 6] (MeasRel s w) (fun e _ _ _ => s.size - (intOf e).toNat)
  case atStart => exact ⟨0, 0, 0, 0, by omega, by omega, by omega, rfl, rfl, rfl, rfl, rfl⟩
  case round =>
    obtain ⟨e, r, sum, n, he, hr, hsum, rfl, rfl, rfl, rfl, hm⟩ := hrel
    have Hm := Lib.hid hm
    clear hm
    have hat0 := runE_ge s e
    have hat1 := runE_le s he
    have hfit := unit_fits s (runE s e) hat1
    rcases unit_facts s (runE s e) with ⟨hu1, hux⟩ | ⟨hu1, hu2, hux, hrk, hms⟩
    · have Hstop : Hid (meas s e r sum = (e, sum)) := meas_stop (by unfold goesOn; rw [hu1]; simp)
      have hV : unitAtV (runE s e) (unitOf s (runE s e)) = .tuple #[.int .i64 7, .int .i64 ((runE s e : Nat) : Int)] := by unfold unitAtV; rw [hux, hu1]; rfl
      clear hfit hu1 hux
      have HV := Lib.hid hV
      clear hV
      generalize hA : runE s e = A at hat0 hat1 HV
      have HA := Lib.hid hA
      clear hA
      go_wp2_with (first | (go_at_call 42; refine (run_any s _ _ he hs).mono ?_; rintro x w' ⟨rfl, rfl⟩; rw [HA.out]) | (go_at_call 43; refine (unitAt_any s _ _ hs).mono ?_; rintro x w' ⟨rfl, n2, rfl⟩; rw [HV.out]))
      all_goals
        go_ret2
        exact ⟨by rw [Hm.out, Hstop.out]; rfl, _, rfl⟩
    · have hV : unitAtV (runE s e) (unitOf s (runE s e)) = .tuple #[.int .i64 ((uix (unitOf s (runE s e)) : Nat) : Int), .int .i64 ((runE s e + (unitOf s (runE s e)).1 : Nat) : Int)] := rfl
      have HV := Lib.hid hV
      clear hV
      have hp : partN s e = manyN (satN (s.extract e (runE s e)) (s.extract e (runE s e)).size) (unitMs (uix (unitOf s (runE s e)))) := by
        rw [size_part s he]; unfold satN partN; rw [many_sat, hms]
      have HP := Lib.hid hp
      have Hg : Hid (runE s e ≠ e → r ≤ uix (unitOf s (runE s e)) → meas s e r sum = meas s (runE s e + (unitOf s (runE s e)).1) (uix (unitOf s (runE s e)) + 1) (min (sum + partN s e) (Dur.M + 1))) := fun h1 h2 => by
        rw [meas_step he (by unfold goesOn; simp only [Bool.and_eq_true, decide_eq_true_eq]; exact ⟨⟨h1, by omega⟩, by omega⟩), hrk]
      have Hs1 : Hid (runE s e = e → meas s e r sum = (e, sum)) := fun h1 => meas_stop (by unfold goesOn; rw [h1]; simp)
      have Hs2 : Hid (uix (unitOf s (runE s e)) < r → meas s e r sum = (e, sum)) := fun h1 => meas_stop (by unfold goesOn; rw [hrk]; simp; omega)
      have hAll := allD_part s he
      have hSz := size_part s he
      have hmp := unitMs_pos (uix (unitOf s (runE s e)))
      clear hp hms hrk
      generalize hA : runE s e = A at *
      have HA := Lib.hid hA
      clear hA
      generalize (unitOf s A).1 = ul at *
      generalize hx : uix (unitOf s A) = ux at *
      clear hx
      by_cases hAe : A = e
      · have Hstop := Lib.hid (Hs1.out hAe)
        clear hAll hSz hmp hfit hux hu1 hu2 Hg Hs1 Hs2 HP
        have hAe2 := hAe.symm
        clear hAe
        subst hAe2
        go_wp2_with (first | (go_at_call 42; refine (run_any s _ _ he hs).mono ?_; rintro x w' ⟨rfl, rfl⟩; rw [HA.out]) | (go_at_call 43; refine (unitAt_any s _ _ hs).mono ?_; rintro x w' ⟨rfl, n2, rfl⟩; rw [HV.out]))
        go_ret2
        exact ⟨by rw [Hm.out, Hstop.out]; rfl, _, rfl⟩
      · have hae : ((A : Int) == (e : Int)) = false := by simp; omega
        have Hae := Lib.hid hAe
        clear hAe
        by_cases hrx : ux < r
        · have Hstop := Lib.hid (Hs2.out hrx)
          clear hAll hSz hmp hfit hu1 hu2 Hg Hs1 Hs2 HP
          go_wp2_with (first | (go_at_call 42; refine (run_any s _ _ he hs).mono ?_; rintro x w' ⟨rfl, rfl⟩; rw [HA.out]) | (go_at_call 43; refine (unitAt_any s _ _ hs).mono ?_; rintro x w' ⟨rfl, n2, rfl⟩; rw [HV.out]))
          go_ret2
          exact ⟨by rw [Hm.out, Hstop.out]; rfl, _, rfl⟩
        · have HG := Lib.hid (Hg.out Hae.out (by omega))
          have hx7 : ((ux : Int) == 7) = false := by simp; omega
          clear Hg Hs1 Hs2
          have hAll2 := Lib.hid hAll
          clear hAll
          have hN : satN (s.extract e A) (s.extract e A).size ≤ 315360000000001 := by unfold satN Dur.M; omega
          have HSat : Hid (∀ w', Calls Tryd.prog 44 #[.string (s.extract e A)] w' (Same (.int .i64 ((satN (s.extract e A) (s.extract e A).size : Nat) : Int)) w')) := fun w' => sat_any (s.extract e A) w' (by omega) hAll2.out
          clear hSz hAll2
          generalize satN (s.extract e A) (s.extract e A).size = N at *
          have hsize := fun w' => size_any ux hux w'
          have HSize := Lib.hid hsize
          clear hsize
          generalize unitMs ux = ms at *
          have hq : (315360000000000 : Int).tdiv (ms : Int) = ((Dur.M / ms : Nat) : Int) := by rw [show (315360000000000 : Int) = ((Dur.M : Nat) : Int) from rfl, Int.ofNat_tdiv]
          have hms0 : ((ms : Int) == 0) = false := by simp; omega
          have hQ : Dur.M / ms ≤ 315360000000000 := Nat.div_le_self _ _
          have hmul : Dur.M / ms * ms ≤ 315360000000000 := Nat.div_mul_le_self Dur.M ms
          have hpart : (Dur.M / ms < N → partN s e = Dur.M + 1) ∧ (¬ Dur.M / ms < N → partN s e = N * ms) := by
            rw [HP.out]; unfold manyN
            exact ⟨fun h => if_pos h, fun h => if_neg h⟩
          have HPart := Lib.hid hpart
          clear hpart HP
          by_cases hbig : Dur.M / ms < N
          · have Hpart := Lib.hid (HPart.out.1 hbig)
            generalize Dur.M / ms = Q at *
            clear hmul
            go_wp2_with (first | (go_at_call 42; refine (run_any s _ _ he hs).mono ?_; rintro x w' ⟨rfl, rfl⟩; rw [HA.out]) | (go_at_call 43; refine (unitAt_any s _ _ hs).mono ?_; rintro x w' ⟨rfl, n2, rfl⟩; rw [HV.out]) | (go_at_call 44; refine (HSat.out _).mono ?_; rintro x w' ⟨rfl, rfl⟩) | (go_at_call 19; refine (HSize.out _).mono ?_; rintro x w' ⟨rfl, rfl⟩))
            refine ⟨⟨A + ul, ux + 1, Dur.M + 1, n + n2, hfit, by omega, M1_le, by simp, by rw [M1_int], by simp, rfl, ?_⟩, by simp [intOf]; omega⟩
            rw [Hm.out, HG.out, Hpart.out, min_top]
          · have Hpart := Lib.hid (HPart.out.2 hbig)
            have hp2 : N * ms ≤ 315360000000000 := Nat.le_trans (Nat.mul_le_mul_right _ (by omega)) hmul
            have hp3 : ((N : Nat) : Int) * (ms : Int) = ((N * ms : Nat) : Int) := by simp
            have hbig2 : N ≤ Dur.M / ms := by omega
            clear hbig hmul
            generalize N * ms = p at *
            generalize Dur.M / ms = Q at *
            go_wp2_with (first | (go_at_call 42; refine (run_any s _ _ he hs).mono ?_; rintro x w' ⟨rfl, rfl⟩; rw [HA.out]) | (go_at_call 43; refine (unitAt_any s _ _ hs).mono ?_; rintro x w' ⟨rfl, n2, rfl⟩; rw [HV.out]) | (go_at_call 44; refine (HSat.out _).mono ?_; rintro x w' ⟨rfl, rfl⟩) | (go_at_call 19; refine (HSize.out _).mono ?_; rintro x w' ⟨rfl, rfl⟩))
            refine ⟨⟨A + ul, ux + 1, min (sum + p) (Dur.M + 1), n + n2, hfit, by omega, by unfold Dur.M; omega, by simp, ?_, by simp, rfl, ?_⟩, by simp [intOf]; omega⟩
            · congr 1; unfold Dur.M; split <;> omega
            · rw [Hm.out, HG.out, Hpart.out]

end Go.Proofs.YtmgnhekpgeahmaaDoor
