/- plain: seconds as the program reads them. -/
import Derived.Test.YtmgnhekpgeahmaaDoorSecForm
namespace Go.Proofs.YtmgnhekpgeahmaaDoor
open Go.Dur Go.Fl Go.RowKit

theorem plain_point (s : ByteArray) : secOk s = (decide (secJ s ≠ secI s) && (pointV s (secJ s)).2.2 && decide (¬ (pointV s (secJ s)).2.1 < s.size)) := by
  have hj := secJ_le s
  unfold secOk pointV
  by_cases h1 : secJ s = s.size
  · rw [if_pos (.inl (by omega))]; simp [h1]
  · by_cases h2 : bt s (secJ s) = 46
    · rw [if_neg (by omega)]
      have hg := runE_ge s (secJ s + 1)
      have hl := runE_le s (show secJ s + 1 ≤ s.size by omega)
      rw [Bool.eq_iff_iff]
      simp only [Bool.and_eq_true, Bool.or_eq_true, decide_eq_true_eq, h1, h2, true_and, false_or, ne_eq]
      constructor <;> intro h <;> omega
    · rw [if_pos (.inr h2)]
      simp only [h1, h2, decide_false, Bool.false_and, Bool.or_self, Bool.and_false]
      have : ¬ (¬ secJ s < s.size) := by omega
      simp [this]

theorem plain_frac (s : ByteArray) (h : secOk s = true) : (pointV s (secJ s)).1 = fracS s := by
  have hj := secJ_le s
  unfold pointV fracS
  by_cases h1 : secJ s = s.size
  · rw [if_pos (.inl (by omega)), if_pos h1]
  · rw [if_neg h1]
    unfold secOk at h
    simp only [Bool.and_eq_true, Bool.or_eq_true, decide_eq_true_eq, h1, false_or] at h
    rw [if_neg (by omega), h.2.2]

def upN (h : Int) (minus : Bool) : Nat := if h = 1 ∨ (h = 0 ∧ minus = false) then 1 else 0
/-- The ms that the program reads. -/
def plainN (s : ByteArray) : Int :=
  let n : Int := ((satN (wholeS s) (wholeS s).size * 1000 + milN (fracS s) 3 + upN (halfN (fracS s)) (minusB s) : Nat) : Int)
  if minusB s = true then -n else n
def plainV (s : ByteArray) : Value := if secOk s = true then .tuple #[.int .i64 (plainN s), .bool true] else .tuple #[.int .i64 0, .bool false]

def BelowRet (v : Value) (w : World) (e : Ending) (w' : World) : Prop := e = .returned v ∧ Below w.heap.size w w'

set_option maxHeartbeats 2000000 in
theorem plain_any (s : ByteArray) (w : World) (hs : s.size ≤ 9223372036854775806) : Calls Tryd.prog 34 #[.string s] w (BelowRet (plainV s) w) := by
  have hji := secJ_ge s
  have hjl := secJ_le s
  have hil := secI_le s
  -- the sign
  have hsign : (s.size = 0 ∧ secI s = 0 ∧ minusB s = false) ∨ (0 < s.size ∧ ((bt s 0 : Int) == 43) = true ∧ ((bt s 0 : Int) == 45) = false ∧ secI s = 1 ∧ minusB s = false) ∨ (0 < s.size ∧ ((bt s 0 : Int) == 43) = false ∧ ((bt s 0 : Int) == 45) = true ∧ secI s = 1 ∧ minusB s = true) ∨ (0 < s.size ∧ ((bt s 0 : Int) == 43) = false ∧ ((bt s 0 : Int) == 45) = false ∧ secI s = 0 ∧ minusB s = false) := by
    unfold secI minusB
    by_cases h0 : s.size = 0
    · have := bt_out (t := s) (i := 0) (by omega)
      exact .inl ⟨h0, by rw [this]; rfl, by rw [this]; rfl⟩
    · by_cases h1 : bt s 0 = 43
      · exact .inr (.inl ⟨by omega, eqb h1, neb (c := bt s 0) (k := 45) (by omega), by rw [if_pos (.inl h1)], by simp [h1]⟩)
      · by_cases h2 : bt s 0 = 45
        · exact .inr (.inr (.inl ⟨by omega, neb h1, eqb h2, by rw [if_pos (.inr h2)], by simp [h2]⟩))
        · exact .inr (.inr (.inr ⟨by omega, neb h1, neb h2, by rw [if_neg (by omega)], by simp [h2]⟩))
  have HRun : Hid (∀ w, Calls Tryd.prog 42 #[.string s, .int .i64 ((secI s : Nat) : Int)] w (Same (.int .i64 ((secJ s : Nat) : Int)) w)) := fun w => run_any s _ w hil hs
  have HPoint : Hid (∀ w, Calls Tryd.prog 45 #[.string s, .int .i64 ((secJ s : Nat) : Int)] w (Same (.tuple #[.string (pointV s (secJ s)).1, .int .i64 ((pointV s (secJ s)).2.1 : Nat), .bool (pointV s (secJ s)).2.2]) w)) := fun w => point_any s _ w hs hjl
  have HOk := Lib.hid (plain_point s)
  have HFr := Lib.hid (plain_frac s)
  generalize pointV s (secJ s) = pv at *
  obtain ⟨dg, bh, ok⟩ := pv
  dsimp only at *
  by_cases hok : secOk s = true
  · have hdg := HFr.out hok
    subst hdg
    have hfr := allD_frac s hok
    have hfz := frac_size s
    have hwz := size_whole s
    have hml := mil_le (fracS s) hfr 3 (by omega)
    have HFrac : Hid (∀ w, Calls Tryd.prog 46 #[.string (fracS s)] w (FracRet (fracS s) w)) := fun w => frac_any _ w (by omega) hfr
    have HSat : Hid (∀ w, Calls Tryd.prog 44 #[.string (s.extract (secI s) (secJ s))] w (Same (.int .i64 ((satN (wholeS s) (wholeS s).size : Nat) : Int)) w)) := fun w => sat_any _ w (by show (wholeS s).size ≤ _; omega) (allD_whole s)
    have hsat : satN (wholeS s) (wholeS s).size ≤ 315360000000001 := by unfold satN Dur.M; omega
    have HV : Hid (plainV s = .tuple #[.int .i64 (plainN s), .bool true]) := by show _ = _; unfold plainV; rw [if_pos hok]
    have h3 := hok
    rw [HOk.out] at h3
    simp only [Bool.and_eq_true, decide_eq_true_eq] at h3
    obtain ⟨⟨h4, h5⟩, h6⟩ := h3
    subst h5
    have hne : ((secJ s : Int) == (secI s : Int)) = false := by simp; omega
    have HN : Hid (plainN s = if minusB s = true then -((satN (wholeS s) (wholeS s).size * 1000 + milN (fracS s) 3 + upN (halfN (fracS s)) (minusB s) : Nat) : Int) else ((satN (wholeS s) (wholeS s).size * 1000 + milN (fracS s) 3 + upN (halfN (fracS s)) (minusB s) : Nat) : Int)) := rfl
    have hhalf : halfN (fracS s) = -1 ∨ halfN (fracS s) = 0 ∨ halfN (fracS s) = 1 := by
      unfold halfN; split
      · exact .inl rfl
      · split
        · exact .inr (.inr rfl)
        · exact .inr (.inl rfl)
    clear HOk HFr hok hfr hfz hwz hne
    unfold FracRet at HFrac
    generalize satN (wholeS s) (wholeS s).size = N at *
    generalize milN (fracS s) 3 = m at *
    generalize halfN (fracS s) = h at *
    generalize fracS s = fr at *
    generalize secJ s = J at *
    generalize minusB s = mi at *
    generalize secI s = I at *
    rcases hsign with ⟨z0, z1, z2⟩ | ⟨z0, z1, z2, z3, z4⟩ | ⟨z0, z1, z2, z3, z4⟩ | ⟨z0, z1, z2, z3, z4⟩
    · omega
    · subst z3
      subst z4
      have hb := bt_get s z0
      have hne : ((J : Int) == 1) = false := by simp; omega
      clear h4
      rcases hhalf with rfl | rfl | rfl
      all_goals
        go_enter Tryd.func34, Tryd.ntmps34
        go_wp2_with (first | (go_at_call 42; refine (HRun.out _).mono ?_; rintro x w' ⟨rfl, rfl⟩) | (go_at_call 45; refine (HPoint.out _).mono ?_; rintro x w' ⟨rfl, rfl⟩) | (go_at_call 46; refine (HFrac.out _).mono ?_; rintro x w1 ⟨rfl, b1⟩))
      all_goals
        go_quiet (first | (go_at_call 44; exact quiet_of_eq (HSat.out _)))
        go_wp2_with fail
        go_ret2
        refine ⟨?_, ((b1.alloc b1.size _).drewN' _)⟩
        rw [HV.out, HN.out]
        simp [upN]
    · subst z3
      subst z4
      have hb := bt_get s z0
      have hne : ((J : Int) == 1) = false := by simp; omega
      clear h4
      rcases hhalf with rfl | rfl | rfl
      all_goals
        go_enter Tryd.func34, Tryd.ntmps34
        go_wp2_with (first | (go_at_call 42; refine (HRun.out _).mono ?_; rintro x w' ⟨rfl, rfl⟩) | (go_at_call 45; refine (HPoint.out _).mono ?_; rintro x w' ⟨rfl, rfl⟩) | (go_at_call 46; refine (HFrac.out _).mono ?_; rintro x w1 ⟨rfl, b1⟩))
      all_goals
        go_quiet (first | (go_at_call 44; exact quiet_of_eq (HSat.out _)))
        go_wp2_with fail
        go_ret2
        refine ⟨?_, ((b1.alloc b1.size _).drewN' _)⟩
        rw [HV.out, HN.out]
        simp [upN]
    · subst z3
      subst z4
      have hb := bt_get s z0
      have hne : ((J : Int) == 0) = false := by simp; omega
      clear h4
      rcases hhalf with rfl | rfl | rfl
      all_goals
        go_enter Tryd.func34, Tryd.ntmps34
        go_wp2_with (first | (go_at_call 42; refine (HRun.out _).mono ?_; rintro x w' ⟨rfl, rfl⟩) | (go_at_call 45; refine (HPoint.out _).mono ?_; rintro x w' ⟨rfl, rfl⟩) | (go_at_call 46; refine (HFrac.out _).mono ?_; rintro x w1 ⟨rfl, b1⟩))
      all_goals
        go_quiet (first | (go_at_call 44; exact quiet_of_eq (HSat.out _)))
        go_wp2_with fail
        go_ret2
        refine ⟨?_, ((b1.alloc b1.size _).drewN' _)⟩
        rw [HV.out, HN.out]
        simp [upN]
  · have HV : Hid (plainV s = .tuple #[.int .i64 0, .bool false]) := by show _ = _; unfold plainV; rw [if_neg hok]
    have h3 : secJ s = secI s ∨ ok = false ∨ bh < s.size := by
      rw [HOk.out] at hok
      simp only [Bool.and_eq_true, decide_eq_true_eq, not_and, Classical.not_not] at hok
      by_cases q1 : secJ s = secI s
      · exact .inl q1
      · cases ok
        · exact .inr (.inl rfl)
        · exact .inr (.inr (by have := hok ⟨q1, rfl⟩; omega))
    clear HOk HFr hok
    generalize secJ s = J at *
    generalize minusB s = mi at *
    generalize secI s = I at *
    rcases hsign with ⟨z0, z1, z2⟩ | ⟨z0, z1, z2, z3, z4⟩ | ⟨z0, z1, z2, z3, z4⟩ | ⟨z0, z1, z2, z3, z4⟩
    · subst z1
      have hb := z0
      by_cases c1 : J = 0
      · subst c1
        go_enter Tryd.func34, Tryd.ntmps34
        go_wp2_with (first | (go_at_call 42; refine (HRun.out _).mono ?_; rintro x w' ⟨rfl, rfl⟩) | (go_at_call 45; refine (HPoint.out _).mono ?_; rintro x w' ⟨rfl, rfl⟩))
        go_ret2
        exact ⟨by rw [HV.out]; rfl, Below.refl _ _⟩
      · exact absurd (show J = 0 by omega) c1
    · subst z3
      have hb := bt_get s z0
      by_cases c1 : J = 1
      · subst c1
        go_enter Tryd.func34, Tryd.ntmps34
        go_wp2_with (first | (go_at_call 42; refine (HRun.out _).mono ?_; rintro x w' ⟨rfl, rfl⟩) | (go_at_call 45; refine (HPoint.out _).mono ?_; rintro x w' ⟨rfl, rfl⟩))
        go_ret2
        exact ⟨by rw [HV.out]; rfl, Below.refl _ _⟩
      · have hne : ((J : Int) == 1) = false := by simp; omega
        clear c1
        cases ok
        · go_enter Tryd.func34, Tryd.ntmps34
          go_wp2_with (first | (go_at_call 42; refine (HRun.out _).mono ?_; rintro x w' ⟨rfl, rfl⟩) | (go_at_call 45; refine (HPoint.out _).mono ?_; rintro x w' ⟨rfl, rfl⟩))
          go_ret2
          exact ⟨by rw [HV.out]; rfl, Below.refl _ _⟩
        · have hbh : bh < s.size := by
            rcases h3 with h | h | h
            · exact absurd h (by have hq := hne; simp at hq; omega)
            · cases h
            · exact h
          go_enter Tryd.func34, Tryd.ntmps34
          go_wp2_with (first | (go_at_call 42; refine (HRun.out _).mono ?_; rintro x w' ⟨rfl, rfl⟩) | (go_at_call 45; refine (HPoint.out _).mono ?_; rintro x w' ⟨rfl, rfl⟩))
          go_ret2
          exact ⟨by rw [HV.out]; rfl, Below.refl _ _⟩
    · subst z3
      have hb := bt_get s z0
      by_cases c1 : J = 1
      · subst c1
        go_enter Tryd.func34, Tryd.ntmps34
        go_wp2_with (first | (go_at_call 42; refine (HRun.out _).mono ?_; rintro x w' ⟨rfl, rfl⟩) | (go_at_call 45; refine (HPoint.out _).mono ?_; rintro x w' ⟨rfl, rfl⟩))
        go_ret2
        exact ⟨by rw [HV.out]; rfl, Below.refl _ _⟩
      · have hne : ((J : Int) == 1) = false := by simp; omega
        clear c1
        cases ok
        · go_enter Tryd.func34, Tryd.ntmps34
          go_wp2_with (first | (go_at_call 42; refine (HRun.out _).mono ?_; rintro x w' ⟨rfl, rfl⟩) | (go_at_call 45; refine (HPoint.out _).mono ?_; rintro x w' ⟨rfl, rfl⟩))
          go_ret2
          exact ⟨by rw [HV.out]; rfl, Below.refl _ _⟩
        · have hbh : bh < s.size := by
            rcases h3 with h | h | h
            · exact absurd h (by have hq := hne; simp at hq; omega)
            · cases h
            · exact h
          go_enter Tryd.func34, Tryd.ntmps34
          go_wp2_with (first | (go_at_call 42; refine (HRun.out _).mono ?_; rintro x w' ⟨rfl, rfl⟩) | (go_at_call 45; refine (HPoint.out _).mono ?_; rintro x w' ⟨rfl, rfl⟩))
          go_ret2
          exact ⟨by rw [HV.out]; rfl, Below.refl _ _⟩
    · subst z3
      have hb := bt_get s z0
      by_cases c1 : J = 0
      · subst c1
        go_enter Tryd.func34, Tryd.ntmps34
        go_wp2_with (first | (go_at_call 42; refine (HRun.out _).mono ?_; rintro x w' ⟨rfl, rfl⟩) | (go_at_call 45; refine (HPoint.out _).mono ?_; rintro x w' ⟨rfl, rfl⟩))
        go_ret2
        exact ⟨by rw [HV.out]; rfl, Below.refl _ _⟩
      · have hne : ((J : Int) == 0) = false := by simp; omega
        clear c1
        cases ok
        · go_enter Tryd.func34, Tryd.ntmps34
          go_wp2_with (first | (go_at_call 42; refine (HRun.out _).mono ?_; rintro x w' ⟨rfl, rfl⟩) | (go_at_call 45; refine (HPoint.out _).mono ?_; rintro x w' ⟨rfl, rfl⟩))
          go_ret2
          exact ⟨by rw [HV.out]; rfl, Below.refl _ _⟩
        · have hbh : bh < s.size := by
            rcases h3 with h | h | h
            · exact absurd h (by have hq := hne; simp at hq; omega)
            · cases h
            · exact h
          go_enter Tryd.func34, Tryd.ntmps34
          go_wp2_with (first | (go_at_call 42; refine (HRun.out _).mono ?_; rintro x w' ⟨rfl, rfl⟩) | (go_at_call 45; refine (HPoint.out _).mono ?_; rintro x w' ⟨rfl, rfl⟩))
          go_ret2
          exact ⟨by rw [HV.out]; rfl, Below.refl _ _⟩

end Go.Proofs.YtmgnhekpgeahmaaDoor
