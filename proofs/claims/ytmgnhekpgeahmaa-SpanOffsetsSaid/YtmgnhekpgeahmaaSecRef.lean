/- seconds and near: the reference's reading of seconds. -/
import Derived.Test.YtmgnhekpgeahmaaSecPlain
namespace Go.Proofs.Ytmgnhekpgeahmaa
open Go.Dur Go.Fl Go.RowKit

theorem results_tmp4 {fn : Func} {t u v x : Tmp} (h : fn.results = #[.tmp t, .tmp u, .tmp v, .tmp x]) (tmps : Array Value) (P : Program) (w : World) :
    (results fn tmps).run P w = .ok (.tuple #[tmps.getD t undef, tmps.getD u undef, tmps.getD v undef, tmps.getD x undef]) w := by
  simp [results, h]

def secV (s : ByteArray) : Value := if secOk s = true then .tuple #[.bool (minusB s), .string (wholeS s), .string (fracS s), .bool true] else .tuple #[.bool false, .string ⟨#[]⟩, .string ⟨#[]⟩, .bool false]

set_option maxHeartbeats 2000000 in
theorem seconds_any (s : ByteArray) (w : World) (hs : s.size ≤ 9223372036854775806) : Calls Try.prog 39 #[.string s] w (SameD (secV s) w) := by
  have hjl := secJ_le s
  have hji := secJ_ge s
  have hil := secI_le s
  have HRun : Hid (∀ w, Calls Try.prog 32 #[.string s, .int .i64 ((secI s : Nat) : Int)] w (Same (.int .i64 ((secJ s : Nat) : Int)) w)) := fun w => refrun_any s _ w hil hs
  have HRun2 : Hid (secJ s + 1 ≤ s.size → ∀ w, Calls Try.prog 32 #[.string s, .int .i64 ((secJ s : Int) + 1)] w (Same (.int .i64 ((runE s (secJ s + 1) : Nat) : Int)) w)) := fun h w => refrun_next s _ w h hs
  have HV : Hid (secV s = if secOk s = true then .tuple #[.bool (minusB s), .string (s.extract (secI s) (secJ s)), .string (fracS s), .bool true] else .tuple #[.bool false, .string ⟨#[]⟩, .string ⟨#[]⟩, .bool false]) := rfl
  have HOk : Hid (secOk s = (decide (secJ s ≠ secI s) && (decide (secJ s = s.size) || (decide (bt s (secJ s) = 46) && decide (secJ s + 1 < s.size) && decide (runE s (secJ s + 1) = s.size))))) := rfl
  have HF : Hid (fracS s = if secJ s = s.size then ⟨#[]⟩ else s.extract (secJ s + 1) s.size) := rfl
  have hsign : (s.size = 0 ∧ secI s = 0 ∧ minusB s = false) ∨ (0 < s.size ∧ ((bt s 0 : Int) == 43) = true ∧ ((bt s 0 : Int) == 45) = false ∧ secI s = 1 ∧ minusB s = false) ∨ (0 < s.size ∧ ((bt s 0 : Int) == 43) = false ∧ ((bt s 0 : Int) == 45) = true ∧ secI s = 1 ∧ minusB s = true) ∨ (0 < s.size ∧ ((bt s 0 : Int) == 43) = false ∧ ((bt s 0 : Int) == 45) = false ∧ secI s = 0 ∧ minusB s = false) := by
    unfold secI minusB
    by_cases h0 : s.size = 0
    · have := bt_out (t := s) (i := 0) (by omega)
      exact .inl ⟨h0, by rw [this]; rfl, by rw [this]; rfl⟩
    · by_cases h1 : bt s 0 = 43
      · exact .inr (.inl ⟨by omega, eqb h1, neb (c := bt s 0) (k := 45) (by omega), by rw [if_pos (.inl h1)], by simp [h1]⟩)
      · by_cases h2 : bt s 0 = 45
        · exact .inr (.inr (.inl ⟨by omega, neb h1, eqb h2, by rw [if_pos (.inr h2)], by simp [h2]⟩))
        · exact .inr (.inr (.inr ⟨by omega, neb h1, neb h2, by rw [if_neg (by omega)], by simp [h2]⟩))
  -- a name for each way
  have key : (secJ s = secI s ∧ secOk s = false) ∨ (secJ s ≠ secI s ∧ secJ s = s.size ∧ secOk s = true) ∨ (secJ s ≠ secI s ∧ secJ s < s.size ∧ bt s (secJ s) ≠ 46 ∧ secOk s = false) ∨ (secJ s ≠ secI s ∧ secJ s < s.size ∧ bt s (secJ s) = 46 ∧ secJ s + 1 = s.size ∧ secOk s = false) ∨ (secJ s ≠ secI s ∧ secJ s + 1 < s.size ∧ bt s (secJ s) = 46 ∧ runE s (secJ s + 1) ≠ s.size ∧ secOk s = false) ∨ (secJ s ≠ secI s ∧ secJ s + 1 < s.size ∧ bt s (secJ s) = 46 ∧ runE s (secJ s + 1) = s.size ∧ secOk s = true) := by
    rw [HOk.out]
    by_cases a1 : secJ s = secI s
    · exact .inl ⟨a1, by simp [a1]⟩
    · by_cases a2 : secJ s = s.size
      · exact .inr (.inl ⟨a1, a2, by rw [decide_eq_true a1, decide_eq_true a2]; rfl⟩)
      · by_cases a3 : bt s (secJ s) = 46
        · by_cases a4 : secJ s + 1 = s.size
          · exact .inr (.inr (.inr (.inl ⟨a1, by omega, a3, a4, by rw [decide_eq_false a2, decide_eq_false (show ¬ secJ s + 1 < s.size by omega)]; simp⟩)))
          · by_cases a5 : runE s (secJ s + 1) = s.size
            · exact .inr (.inr (.inr (.inr (.inr ⟨a1, by omega, a3, a5, by rw [decide_eq_true a1, decide_eq_true a3, decide_eq_true a5, decide_eq_true (show secJ s + 1 < s.size by omega)]; simp⟩))))
            · exact .inr (.inr (.inr (.inr (.inl ⟨a1, by omega, a3, a5, by rw [decide_eq_false a2, decide_eq_false a5]; simp⟩))))
        · exact .inr (.inr (.inl ⟨a1, by omega, a3, by rw [decide_eq_false a2, decide_eq_false a3]; simp⟩))
  clear HOk
  generalize minusB s = mi at *
  generalize secI s = I at *
  generalize runE s (secJ s + 1) = E at *
  generalize secJ s = J at *
  rcases hsign with ⟨z0, z1, z2⟩ | ⟨z0, z1, z2, z3, z4⟩ | ⟨z0, z1, z2, z3, z4⟩ | ⟨z0, z1, z2, z3, z4⟩
  · have hse : s = ⟨#[]⟩ := by
      obtain ⟨⟨l⟩⟩ := s
      have : l.length = 0 := z0
      rw [List.length_eq_zero_iff.1 this]
    have hj0 : J = 0 := by omega
    subst z1
    subst hj0
    have k9 : secOk s = false := by
      rcases key with ⟨_, h⟩ | ⟨h, _⟩ | ⟨h, _⟩ | ⟨h, _⟩ | ⟨h, _⟩ | ⟨h, _⟩
      · exact h
      all_goals exact absurd rfl h
    have HRunI : Hid (∀ w, Calls Try.prog 32 #[.string s, .int .i64 0] w (Same (.int .i64 0) w)) := HRun.out
    clear HRun
    have HV2 := Lib.hid (HV.out.trans (if_neg (by rw [k9]; simp)))
    clear HV k9 key HF HRun2 hil hji hjl z0 hs
    subst hse
    go_enter Try.func39, Try.ntmps39
    go_wp2_with (first | (go_at_call 32; (with_reducible refine (HRunI.out _).mono ?_); rintro x w' ⟨rfl, rfl⟩))
    refine bodyPost_ret (results_tmp4 rfl _ _ _) rfl ?_
    exact ⟨by rw [HV2.out]; rfl, 0, rfl⟩
  · subst z3
    subst z4
    have HRunI : Hid (∀ w, Calls Try.prog 32 #[.string s, .int .i64 1] w (Same (.int .i64 (J : Int)) w)) := HRun.out
    clear HRun
    have hb := bt_get s z0
    have hnl := nonempty_list' (s := s) (by omega)
    rcases key with ⟨k1, k9⟩ | ⟨k1, k2, k9⟩ | ⟨k1, k2, k3, k9⟩ | ⟨k1, k2, k3, k4, k9⟩ | ⟨k1, k2, k3, k4, k9⟩ | ⟨k1, k2, k3, k4, k9⟩
    · subst k1
      clear HF HRun2
      have HV2 := Lib.hid (HV.out.trans (if_neg (by rw [k9]; simp)))
      clear HV k9
      go_enter Try.func39, Try.ntmps39
      go_wp2_with (first | (go_at_call 32; (with_reducible refine (HRunI.out _).mono ?_); rintro x w' ⟨rfl, rfl⟩))
      refine bodyPost_ret (results_tmp4 rfl _ _ _) rfl ?_
      exact ⟨by rw [HV2.out]; rfl, 0, rfl⟩
    · have hne : ((J : Int) == 1) = false := by simp; omega
      have HF2 := Lib.hid (HF.out.trans (if_pos k2))
      have hsl := fun w' => slice_run s 1 J 1 J w' rfl rfl hji hjl
      have hjs : ((J : Int) == (s.size : Int)) = true := by simp; omega
      clear HF HRun2 k1 k2
      have HV2 := Lib.hid (HV.out.trans (if_pos k9))
      clear HV k9
      go_enter Try.func39, Try.ntmps39
      go_wp2_with (first | (go_at_call 32; (with_reducible refine (HRunI.out _).mono ?_); rintro x w' ⟨rfl, rfl⟩))
      go_quiet (fail)
      go_wp2_with fail
      refine bodyPost_ret (results_tmp4 rfl _ _ _) rfl ?_
      exact ⟨by rw [HV2.out]; rw [HF2.out]; simp, _, rfl⟩
    · have hb2 := bt_get s k2
      have hne : ((J : Int) == 1) = false := by simp; omega
      have hjs : ((J : Int) == (s.size : Int)) = false := by simp; omega
      have hq : ((bt s J : Int) != 46) = true := bnne k3
      clear HF HRun2 k1 k3
      have HV2 := Lib.hid (HV.out.trans (if_neg (by rw [k9]; simp)))
      clear HV k9
      go_enter Try.func39, Try.ntmps39
      go_wp2_with (first | (go_at_call 32; (with_reducible refine (HRunI.out _).mono ?_); rintro x w' ⟨rfl, rfl⟩))
      refine bodyPost_ret (results_tmp4 rfl _ _ _) rfl ?_
      exact ⟨by rw [HV2.out]; rfl, 0, rfl⟩
    · have hb2 := bt_get s k2
      have hne : ((J : Int) == 1) = false := by simp; omega
      have hjs : ((J : Int) == (s.size : Int)) = false := by simp; omega
      have hq : ((bt s J : Int) != 46) = false := bneq k3
      have hq4 : ((J : Int) + 1 == (s.size : Int)) = true := by simp; omega
      clear HF HRun2 k1 k3 k4
      have HV2 := Lib.hid (HV.out.trans (if_neg (by rw [k9]; simp)))
      clear HV k9
      go_enter Try.func39, Try.ntmps39
      go_wp2_with (first | (go_at_call 32; (with_reducible refine (HRunI.out _).mono ?_); rintro x w' ⟨rfl, rfl⟩))
      refine bodyPost_ret (results_tmp4 rfl _ _ _) rfl ?_
      exact ⟨by rw [HV2.out]; rfl, 0, rfl⟩
    · have HRunJ := Lib.hid (HRun2.out (by omega))
      clear HRun2
      have hJlt : J < s.size := by omega
      have hb2 := bt_get s hJlt
      have hne : ((J : Int) == 1) = false := by simp; omega
      have hjs : ((J : Int) == (s.size : Int)) = false := by simp; omega
      have hq : ((bt s J : Int) != 46) = false := bneq k3
      have hq4 : ((J : Int) + 1 == (s.size : Int)) = false := by simp; omega
      have hq5 : ((E : Int) != (s.size : Int)) = true := bnne k4
      clear HF k1 k3 k4
      have HV2 := Lib.hid (HV.out.trans (if_neg (by rw [k9]; simp)))
      clear HV k9
      go_enter Try.func39, Try.ntmps39
      go_wp2_with (first | (go_at_call 32; (with_reducible refine (HRunI.out _).mono ?_); rintro x w' ⟨rfl, rfl⟩) | (go_at_call 32; (with_reducible refine (HRunJ.out _).mono ?_); rintro x w' ⟨rfl, rfl⟩))
      refine bodyPost_ret (results_tmp4 rfl _ _ _) rfl ?_
      exact ⟨by rw [HV2.out]; rfl, 0, rfl⟩
    · have HRunJ := Lib.hid (HRun2.out (by omega))
      clear HRun2
      have hJlt : J < s.size := by omega
      have hb2 := bt_get s hJlt
      have hne : ((J : Int) == 1) = false := by simp; omega
      have hjs : ((J : Int) == (s.size : Int)) = false := by simp; omega
      have hq : ((bt s J : Int) != 46) = false := bneq k3
      have hq4 : ((J : Int) + 1 == (s.size : Int)) = false := by simp; omega
      have hq5 : ((E : Int) != (s.size : Int)) = false := bneq k4
      have HF2 := Lib.hid (HF.out.trans (if_neg (show ¬ J = s.size by omega)))
      have hsl := fun w' => slice_run s 1 J 1 J w' rfl rfl hji hjl
      have hst := fun w' => slice_tail s ((J : Int) + 1) (J + 1) w' (by simp) (by omega)
      clear HF k1 k3 k4
      have HV2 := Lib.hid (HV.out.trans (if_pos k9))
      clear HV k9
      go_enter Try.func39, Try.ntmps39
      go_wp2_with (first | (go_at_call 32; (with_reducible refine (HRunI.out _).mono ?_); rintro x w' ⟨rfl, rfl⟩) | (go_at_call 32; (with_reducible refine (HRunJ.out _).mono ?_); rintro x w' ⟨rfl, rfl⟩))
      go_quiet (fail)
      go_wp2_with fail
      refine bodyPost_ret (results_tmp4 rfl _ _ _) rfl ?_
      exact ⟨by rw [HV2.out]; rw [HF2.out]; simp, _, rfl⟩
  · subst z3
    subst z4
    have HRunI : Hid (∀ w, Calls Try.prog 32 #[.string s, .int .i64 1] w (Same (.int .i64 (J : Int)) w)) := HRun.out
    clear HRun
    have hb := bt_get s z0
    have hnl := nonempty_list' (s := s) (by omega)
    rcases key with ⟨k1, k9⟩ | ⟨k1, k2, k9⟩ | ⟨k1, k2, k3, k9⟩ | ⟨k1, k2, k3, k4, k9⟩ | ⟨k1, k2, k3, k4, k9⟩ | ⟨k1, k2, k3, k4, k9⟩
    · subst k1
      clear HF HRun2
      have HV2 := Lib.hid (HV.out.trans (if_neg (by rw [k9]; simp)))
      clear HV k9
      go_enter Try.func39, Try.ntmps39
      go_wp2_with (first | (go_at_call 32; (with_reducible refine (HRunI.out _).mono ?_); rintro x w' ⟨rfl, rfl⟩))
      refine bodyPost_ret (results_tmp4 rfl _ _ _) rfl ?_
      exact ⟨by rw [HV2.out]; rfl, 0, rfl⟩
    · have hne : ((J : Int) == 1) = false := by simp; omega
      have HF2 := Lib.hid (HF.out.trans (if_pos k2))
      have hsl := fun w' => slice_run s 1 J 1 J w' rfl rfl hji hjl
      have hjs : ((J : Int) == (s.size : Int)) = true := by simp; omega
      clear HF HRun2 k1 k2
      have HV2 := Lib.hid (HV.out.trans (if_pos k9))
      clear HV k9
      go_enter Try.func39, Try.ntmps39
      go_wp2_with (first | (go_at_call 32; (with_reducible refine (HRunI.out _).mono ?_); rintro x w' ⟨rfl, rfl⟩))
      go_quiet (fail)
      go_wp2_with fail
      refine bodyPost_ret (results_tmp4 rfl _ _ _) rfl ?_
      exact ⟨by rw [HV2.out]; rw [HF2.out]; simp, _, rfl⟩
    · have hb2 := bt_get s k2
      have hne : ((J : Int) == 1) = false := by simp; omega
      have hjs : ((J : Int) == (s.size : Int)) = false := by simp; omega
      have hq : ((bt s J : Int) != 46) = true := bnne k3
      clear HF HRun2 k1 k3
      have HV2 := Lib.hid (HV.out.trans (if_neg (by rw [k9]; simp)))
      clear HV k9
      go_enter Try.func39, Try.ntmps39
      go_wp2_with (first | (go_at_call 32; (with_reducible refine (HRunI.out _).mono ?_); rintro x w' ⟨rfl, rfl⟩))
      refine bodyPost_ret (results_tmp4 rfl _ _ _) rfl ?_
      exact ⟨by rw [HV2.out]; rfl, 0, rfl⟩
    · have hb2 := bt_get s k2
      have hne : ((J : Int) == 1) = false := by simp; omega
      have hjs : ((J : Int) == (s.size : Int)) = false := by simp; omega
      have hq : ((bt s J : Int) != 46) = false := bneq k3
      have hq4 : ((J : Int) + 1 == (s.size : Int)) = true := by simp; omega
      clear HF HRun2 k1 k3 k4
      have HV2 := Lib.hid (HV.out.trans (if_neg (by rw [k9]; simp)))
      clear HV k9
      go_enter Try.func39, Try.ntmps39
      go_wp2_with (first | (go_at_call 32; (with_reducible refine (HRunI.out _).mono ?_); rintro x w' ⟨rfl, rfl⟩))
      refine bodyPost_ret (results_tmp4 rfl _ _ _) rfl ?_
      exact ⟨by rw [HV2.out]; rfl, 0, rfl⟩
    · have HRunJ := Lib.hid (HRun2.out (by omega))
      clear HRun2
      have hJlt : J < s.size := by omega
      have hb2 := bt_get s hJlt
      have hne : ((J : Int) == 1) = false := by simp; omega
      have hjs : ((J : Int) == (s.size : Int)) = false := by simp; omega
      have hq : ((bt s J : Int) != 46) = false := bneq k3
      have hq4 : ((J : Int) + 1 == (s.size : Int)) = false := by simp; omega
      have hq5 : ((E : Int) != (s.size : Int)) = true := bnne k4
      clear HF k1 k3 k4
      have HV2 := Lib.hid (HV.out.trans (if_neg (by rw [k9]; simp)))
      clear HV k9
      go_enter Try.func39, Try.ntmps39
      go_wp2_with (first | (go_at_call 32; (with_reducible refine (HRunI.out _).mono ?_); rintro x w' ⟨rfl, rfl⟩) | (go_at_call 32; (with_reducible refine (HRunJ.out _).mono ?_); rintro x w' ⟨rfl, rfl⟩))
      refine bodyPost_ret (results_tmp4 rfl _ _ _) rfl ?_
      exact ⟨by rw [HV2.out]; rfl, 0, rfl⟩
    · have HRunJ := Lib.hid (HRun2.out (by omega))
      clear HRun2
      have hJlt : J < s.size := by omega
      have hb2 := bt_get s hJlt
      have hne : ((J : Int) == 1) = false := by simp; omega
      have hjs : ((J : Int) == (s.size : Int)) = false := by simp; omega
      have hq : ((bt s J : Int) != 46) = false := bneq k3
      have hq4 : ((J : Int) + 1 == (s.size : Int)) = false := by simp; omega
      have hq5 : ((E : Int) != (s.size : Int)) = false := bneq k4
      have HF2 := Lib.hid (HF.out.trans (if_neg (show ¬ J = s.size by omega)))
      have hsl := fun w' => slice_run s 1 J 1 J w' rfl rfl hji hjl
      have hst := fun w' => slice_tail s ((J : Int) + 1) (J + 1) w' (by simp) (by omega)
      clear HF k1 k3 k4
      have HV2 := Lib.hid (HV.out.trans (if_pos k9))
      clear HV k9
      go_enter Try.func39, Try.ntmps39
      go_wp2_with (first | (go_at_call 32; (with_reducible refine (HRunI.out _).mono ?_); rintro x w' ⟨rfl, rfl⟩) | (go_at_call 32; (with_reducible refine (HRunJ.out _).mono ?_); rintro x w' ⟨rfl, rfl⟩))
      go_quiet (fail)
      go_wp2_with fail
      refine bodyPost_ret (results_tmp4 rfl _ _ _) rfl ?_
      exact ⟨by rw [HV2.out]; rw [HF2.out]; simp, _, rfl⟩
  · subst z3
    subst z4
    have HRunI : Hid (∀ w, Calls Try.prog 32 #[.string s, .int .i64 0] w (Same (.int .i64 (J : Int)) w)) := HRun.out
    clear HRun
    have hb := bt_get s z0
    have hnl := nonempty_list' (s := s) (by omega)
    rcases key with ⟨k1, k9⟩ | ⟨k1, k2, k9⟩ | ⟨k1, k2, k3, k9⟩ | ⟨k1, k2, k3, k4, k9⟩ | ⟨k1, k2, k3, k4, k9⟩ | ⟨k1, k2, k3, k4, k9⟩
    · subst k1
      clear HF HRun2
      have HV2 := Lib.hid (HV.out.trans (if_neg (by rw [k9]; simp)))
      clear HV k9
      go_enter Try.func39, Try.ntmps39
      go_wp2_with (first | (go_at_call 32; (with_reducible refine (HRunI.out _).mono ?_); rintro x w' ⟨rfl, rfl⟩))
      refine bodyPost_ret (results_tmp4 rfl _ _ _) rfl ?_
      exact ⟨by rw [HV2.out]; rfl, 0, rfl⟩
    · have hne : ((J : Int) == 0) = false := by simp; omega
      have HF2 := Lib.hid (HF.out.trans (if_pos k2))
      have hsl := fun w' => slice_run s 0 J 0 J w' rfl rfl hji hjl
      have hjs : ((J : Int) == (s.size : Int)) = true := by simp; omega
      clear HF HRun2 k1 k2
      have HV2 := Lib.hid (HV.out.trans (if_pos k9))
      clear HV k9
      go_enter Try.func39, Try.ntmps39
      go_wp2_with (first | (go_at_call 32; (with_reducible refine (HRunI.out _).mono ?_); rintro x w' ⟨rfl, rfl⟩))
      go_quiet (fail)
      go_wp2_with fail
      refine bodyPost_ret (results_tmp4 rfl _ _ _) rfl ?_
      exact ⟨by rw [HV2.out]; rw [HF2.out]; simp, _, rfl⟩
    · have hb2 := bt_get s k2
      have hne : ((J : Int) == 0) = false := by simp; omega
      have hjs : ((J : Int) == (s.size : Int)) = false := by simp; omega
      have hq : ((bt s J : Int) != 46) = true := bnne k3
      clear HF HRun2 k1 k3
      have HV2 := Lib.hid (HV.out.trans (if_neg (by rw [k9]; simp)))
      clear HV k9
      go_enter Try.func39, Try.ntmps39
      go_wp2_with (first | (go_at_call 32; (with_reducible refine (HRunI.out _).mono ?_); rintro x w' ⟨rfl, rfl⟩))
      refine bodyPost_ret (results_tmp4 rfl _ _ _) rfl ?_
      exact ⟨by rw [HV2.out]; rfl, 0, rfl⟩
    · have hb2 := bt_get s k2
      have hne : ((J : Int) == 0) = false := by simp; omega
      have hjs : ((J : Int) == (s.size : Int)) = false := by simp; omega
      have hq : ((bt s J : Int) != 46) = false := bneq k3
      have hq4 : ((J : Int) + 1 == (s.size : Int)) = true := by simp; omega
      clear HF HRun2 k1 k3 k4
      have HV2 := Lib.hid (HV.out.trans (if_neg (by rw [k9]; simp)))
      clear HV k9
      go_enter Try.func39, Try.ntmps39
      go_wp2_with (first | (go_at_call 32; (with_reducible refine (HRunI.out _).mono ?_); rintro x w' ⟨rfl, rfl⟩))
      refine bodyPost_ret (results_tmp4 rfl _ _ _) rfl ?_
      exact ⟨by rw [HV2.out]; rfl, 0, rfl⟩
    · have HRunJ := Lib.hid (HRun2.out (by omega))
      clear HRun2
      have hJlt : J < s.size := by omega
      have hb2 := bt_get s hJlt
      have hne : ((J : Int) == 0) = false := by simp; omega
      have hjs : ((J : Int) == (s.size : Int)) = false := by simp; omega
      have hq : ((bt s J : Int) != 46) = false := bneq k3
      have hq4 : ((J : Int) + 1 == (s.size : Int)) = false := by simp; omega
      have hq5 : ((E : Int) != (s.size : Int)) = true := bnne k4
      clear HF k1 k3 k4
      have HV2 := Lib.hid (HV.out.trans (if_neg (by rw [k9]; simp)))
      clear HV k9
      go_enter Try.func39, Try.ntmps39
      go_wp2_with (first | (go_at_call 32; (with_reducible refine (HRunI.out _).mono ?_); rintro x w' ⟨rfl, rfl⟩) | (go_at_call 32; (with_reducible refine (HRunJ.out _).mono ?_); rintro x w' ⟨rfl, rfl⟩))
      refine bodyPost_ret (results_tmp4 rfl _ _ _) rfl ?_
      exact ⟨by rw [HV2.out]; rfl, 0, rfl⟩
    · have HRunJ := Lib.hid (HRun2.out (by omega))
      clear HRun2
      have hJlt : J < s.size := by omega
      have hb2 := bt_get s hJlt
      have hne : ((J : Int) == 0) = false := by simp; omega
      have hjs : ((J : Int) == (s.size : Int)) = false := by simp; omega
      have hq : ((bt s J : Int) != 46) = false := bneq k3
      have hq4 : ((J : Int) + 1 == (s.size : Int)) = false := by simp; omega
      have hq5 : ((E : Int) != (s.size : Int)) = false := bneq k4
      have HF2 := Lib.hid (HF.out.trans (if_neg (show ¬ J = s.size by omega)))
      have hsl := fun w' => slice_run s 0 J 0 J w' rfl rfl hji hjl
      have hst := fun w' => slice_tail s ((J : Int) + 1) (J + 1) w' (by simp) (by omega)
      clear HF k1 k3 k4
      have HV2 := Lib.hid (HV.out.trans (if_pos k9))
      clear HV k9
      go_enter Try.func39, Try.ntmps39
      go_wp2_with (first | (go_at_call 32; (with_reducible refine (HRunI.out _).mono ?_); rintro x w' ⟨rfl, rfl⟩) | (go_at_call 32; (with_reducible refine (HRunJ.out _).mono ?_); rintro x w' ⟨rfl, rfl⟩))
      go_quiet (fail)
      go_wp2_with fail
      refine bodyPost_ret (results_tmp4 rfl _ _ _) rfl ?_
      exact ⟨by rw [HV2.out]; rw [HF2.out]; simp, _, rfl⟩

end Go.Proofs.Ytmgnhekpgeahmaa
