/- weirref06.Pow: the same number. -/
import Derived.Test.YtmmfjknnbkcniaaGreatDoorV20
set_option maxHeartbeats 64000000
set_option maxRecDepth 100000
namespace Go.Proofs.YtmmfjknnbkcniaaGreatDoor
open Go.Fl Go.Rel Go.RowKit
set_option linter.unusedSimpArgs false
set_option linter.unusedVariables false
def ESome (v : Nat) (w : World) (e : Ending) (w' : World) : Prop := ∃ r n, e = .returned (.tuple #[.float .f64 r, .bool true]) ∧ cn r = v ∧ w' = w.drewN n
def ENone (w : World) (e : Ending) (w' : World) : Prop := ∃ n, e = .returned (.tuple #[.float .f64 0, .bool false]) ∧ w' = w.drewN n
theorem edge_0 (x y : Nat) (w : World)  (f0 : eqz y = true) : Calls Tryz.prog 132 #[.float .f64 x, .float .f64 y] w (ESome (w1) w) := by
 have HV : Hid (cn 4607182418800017408 = w1) := qh (by decide +kernel)
 have q0 := ordQ f0
 go_enter Tryz.func132, Tryz.ntmps132
 go_wp2_with fail
 go_ret2
 first | exact ⟨_, 0, rfl, HV.out, rfl⟩ | exact ⟨_, _, rfl, HV.out, by first | rfl | (simp only [World.drewN_drewN]; rfl)⟩
theorem edge_1 (x y : Nat) (w : World)  (f0 : eqz y = false) (f1 : eq1 x = true) : Calls Tryz.prog 132 #[.float .f64 x, .float .f64 y] w (ESome (w1) w) := by
 have HV : Hid (cn 4607182418800017408 = w1) := qh (by decide +kernel)
 have q0 := ordQ f0
 have q1 := ordQ f1
 go_enter Tryz.func132, Tryz.ntmps132
 go_wp2_with fail
 go_ret2
 first | exact ⟨_, 0, rfl, HV.out, rfl⟩ | exact ⟨_, _, rfl, HV.out, by first | rfl | (simp only [World.drewN_drewN]; rfl)⟩
theorem edge_2 (x y : Nat) (w : World)  (f0 : eqz y = false) (f1 : eq1 x = false) (f2 : isN x = true) : Calls Tryz.prog 132 #[.float .f64 x, .float .f64 y] w (ESome (nanc) w) := by
 have HV : Hid (cn 9221120237041090561 = nanc) := qh (by decide +kernel)
 have q0 := ordQ f0
 have q1 := ordQ f1
 go_enter Tryz.func132, Tryz.ntmps132
 go_wp2_with (first | (go_at_call 126; refine (bad_any _ _).mono ?_; rintro e w' ⟨rfl, rfl⟩; first | rw [f2] | rw [f3]) | (go_at_call 128; refine (refnan_any _).mono ?_; rintro e w' ⟨rfl, rfl⟩))
 go_ret2
 first | exact ⟨_, 0, rfl, HV.out, rfl⟩ | exact ⟨_, _, rfl, HV.out, by first | rfl | (simp only [World.drewN_drewN]; rfl)⟩
theorem edge_3 (x y : Nat) (w : World)  (f0 : eqz y = false) (f1 : eq1 x = false) (f2 : isN x = false) (f3 : isN y = true) : Calls Tryz.prog 132 #[.float .f64 x, .float .f64 y] w (ESome (nanc) w) := by
 have HV : Hid (cn 9221120237041090561 = nanc) := qh (by decide +kernel)
 have q0 := ordQ f0
 have q1 := ordQ f1
 go_enter Tryz.func132, Tryz.ntmps132
 go_wp2_with (first | (go_at_call 126; refine (bad_any _ _).mono ?_; rintro e w' ⟨rfl, rfl⟩; first | rw [f2] | rw [f3]) | (go_at_call 128; refine (refnan_any _).mono ?_; rintro e w' ⟨rfl, rfl⟩))
 go_ret2
 first | exact ⟨_, 0, rfl, HV.out, rfl⟩ | exact ⟨_, _, rfl, HV.out, by first | rfl | (simp only [World.drewN_drewN]; rfl)⟩
theorem edge_4 (x y : Nat) (w : World)  (f0 : eqz y = false) (f1 : eq1 x = false) (f2 : isN x = false) (f3 : isN y = false) (f4 : finf (cn y) = true) (f5 : eqm1 x = true) : Calls Tryz.prog 132 #[.float .f64 x, .float .f64 y] w (ESome (powFar x y) w) := by
 have HV : Hid (cn 4607182418800017408 = powFar x y) := qh (by simp [powFar, eqA1_iff f2 f1, f0, f1, f2, f3, f4, f5]; decide +kernel)
 have q0 := ordQ f0
 have q1 := ordQ f1
 have q5 := ordQ f5
 go_enter Tryz.func132, Tryz.ntmps132
 go_wp2_with (first | (go_at_call 126; refine (bad_any _ _).mono ?_; rintro e w' ⟨rfl, rfl⟩; first | rw [f2] | rw [f3]) | (go_at_call 127; refine (endless_any _ _).mono ?_; rintro e w' ⟨rfl, rfl⟩; first | rw [f4] | rw [f6]) | (go_at_call 79; refine (abs_any _ _).mono ?_; rintro e w' ⟨rfl, rfl⟩) | (go_at_call 146; refine (rinf_up _).mono ?_; rintro e w' ⟨rfl, rfl⟩))
 go_ret2
 first | exact ⟨_, 0, rfl, HV.out, rfl⟩ | exact ⟨_, _, rfl, HV.out, by first | rfl | (simp only [World.drewN_drewN]; rfl)⟩
theorem edge_4tt (x y : Nat) (w : World)  (f0 : eqz y = false) (f1 : eq1 x = false) (f2 : isN x = false) (f3 : isN y = false) (f4 : finf (cn y) = true) (f5 : eqm1 x = false) (f6 : gtA1 x = true) (f7 : gtz y = true) : Calls Tryz.prog 132 #[.float .f64 x, .float .f64 y] w (ESome (powFar x y) w) := by
 have HV : Hid (cn pinf = powFar x y) := qh (by simp [powFar, eqA1_iff f2 f1, f0, f1, f2, f3, f4, f5, f6, f7]; decide +kernel)
 have q0 := ordQ f0
 have q1 := ordQ f1
 have q5 := ordQ f5
 have q6 := ordQ f6
 have q7 := ordQ f7
 go_enter Tryz.func132, Tryz.ntmps132
 go_wp2_with (first | (go_at_call 126; refine (bad_any _ _).mono ?_; rintro e w' ⟨rfl, rfl⟩; first | rw [f2] | rw [f3]) | (go_at_call 127; refine (endless_any _ _).mono ?_; rintro e w' ⟨rfl, rfl⟩; first | rw [f4] | rw [f6]) | (go_at_call 79; refine (abs_any _ _).mono ?_; rintro e w' ⟨rfl, rfl⟩) | (go_at_call 146; refine (rinf_up _).mono ?_; rintro e w' ⟨rfl, rfl⟩))
 go_ret2
 first | exact ⟨_, 0, rfl, HV.out, rfl⟩ | exact ⟨_, _, rfl, HV.out, by first | rfl | (simp only [World.drewN_drewN]; rfl)⟩
theorem edge_4tf (x y : Nat) (w : World)  (f0 : eqz y = false) (f1 : eq1 x = false) (f2 : isN x = false) (f3 : isN y = false) (f4 : finf (cn y) = true) (f5 : eqm1 x = false) (f6 : gtA1 x = true) (f7 : gtz y = false) : Calls Tryz.prog 132 #[.float .f64 x, .float .f64 y] w (ESome (powFar x y) w) := by
 have HV : Hid (cn 0 = powFar x y) := qh (by simp [powFar, eqA1_iff f2 f1, f0, f1, f2, f3, f4, f5, f6, f7]; decide +kernel)
 have q0 := ordQ f0
 have q1 := ordQ f1
 have q5 := ordQ f5
 have q6 := ordQ f6
 have q7 := ordQ f7
 go_enter Tryz.func132, Tryz.ntmps132
 go_wp2_with (first | (go_at_call 126; refine (bad_any _ _).mono ?_; rintro e w' ⟨rfl, rfl⟩; first | rw [f2] | rw [f3]) | (go_at_call 127; refine (endless_any _ _).mono ?_; rintro e w' ⟨rfl, rfl⟩; first | rw [f4] | rw [f6]) | (go_at_call 79; refine (abs_any _ _).mono ?_; rintro e w' ⟨rfl, rfl⟩) | (go_at_call 146; refine (rinf_up _).mono ?_; rintro e w' ⟨rfl, rfl⟩))
 go_ret2
 first | exact ⟨_, 0, rfl, HV.out, rfl⟩ | exact ⟨_, _, rfl, HV.out, by first | rfl | (simp only [World.drewN_drewN]; rfl)⟩
theorem edge_4ft (x y : Nat) (w : World)  (f0 : eqz y = false) (f1 : eq1 x = false) (f2 : isN x = false) (f3 : isN y = false) (f4 : finf (cn y) = true) (f5 : eqm1 x = false) (f6 : gtA1 x = false) (f7 : gtz y = true) : Calls Tryz.prog 132 #[.float .f64 x, .float .f64 y] w (ESome (powFar x y) w) := by
 have HV : Hid (cn 0 = powFar x y) := qh (by simp [powFar, eqA1_iff f2 f1, f0, f1, f2, f3, f4, f5, f6, f7]; decide +kernel)
 have q0 := ordQ f0
 have q1 := ordQ f1
 have q5 := ordQ f5
 have q6 := ordQ f6
 have q7 := ordQ f7
 go_enter Tryz.func132, Tryz.ntmps132
 go_wp2_with (first | (go_at_call 126; refine (bad_any _ _).mono ?_; rintro e w' ⟨rfl, rfl⟩; first | rw [f2] | rw [f3]) | (go_at_call 127; refine (endless_any _ _).mono ?_; rintro e w' ⟨rfl, rfl⟩; first | rw [f4] | rw [f6]) | (go_at_call 79; refine (abs_any _ _).mono ?_; rintro e w' ⟨rfl, rfl⟩) | (go_at_call 146; refine (rinf_up _).mono ?_; rintro e w' ⟨rfl, rfl⟩))
 go_ret2
 first | exact ⟨_, 0, rfl, HV.out, rfl⟩ | exact ⟨_, _, rfl, HV.out, by first | rfl | (simp only [World.drewN_drewN]; rfl)⟩
theorem edge_4ff (x y : Nat) (w : World)  (f0 : eqz y = false) (f1 : eq1 x = false) (f2 : isN x = false) (f3 : isN y = false) (f4 : finf (cn y) = true) (f5 : eqm1 x = false) (f6 : gtA1 x = false) (f7 : gtz y = false) : Calls Tryz.prog 132 #[.float .f64 x, .float .f64 y] w (ESome (powFar x y) w) := by
 have HV : Hid (cn pinf = powFar x y) := qh (by simp [powFar, eqA1_iff f2 f1, f0, f1, f2, f3, f4, f5, f6, f7]; decide +kernel)
 have q0 := ordQ f0
 have q1 := ordQ f1
 have q5 := ordQ f5
 have q6 := ordQ f6
 have q7 := ordQ f7
 go_enter Tryz.func132, Tryz.ntmps132
 go_wp2_with (first | (go_at_call 126; refine (bad_any _ _).mono ?_; rintro e w' ⟨rfl, rfl⟩; first | rw [f2] | rw [f3]) | (go_at_call 127; refine (endless_any _ _).mono ?_; rintro e w' ⟨rfl, rfl⟩; first | rw [f4] | rw [f6]) | (go_at_call 79; refine (abs_any _ _).mono ?_; rintro e w' ⟨rfl, rfl⟩) | (go_at_call 146; refine (rinf_up _).mono ?_; rintro e w' ⟨rfl, rfl⟩))
 go_ret2
 first | exact ⟨_, 0, rfl, HV.out, rfl⟩ | exact ⟨_, _, rfl, HV.out, by first | rfl | (simp only [World.drewN_drewN]; rfl)⟩
theorem edge_5tt (x y : Nat) (w : World) (hx : x < 18446744073709551616) (f0 : eqz y = false) (f1 : eq1 x = false) (f2 : isN x = false) (f3 : isN y = false) (f4 : finf (cn y) = false) (f5 : eqz x = true) (f6 : oddB y = true) (f7 : ltz y = true) : Calls Tryz.prog 132 #[.float .f64 x, .float .f64 y] w (ESome (powNought x y) w) := by
 have HV : Hid (cn (Ieee.double.word (sgn x) pinf) = powNought x y) := qh (by rw [cn_of_notN (notN_word _ (by decide))]; simp [powNought, f0, f1, f2, f3, f4, f5, f6, f7])
 have q0 := ordQ f0
 have q1 := ordQ f1
 have q5 := ordQ f5
 have q7 := ordQ f7
 have HX := qh hx
 clear hx
 go_enter Tryz.func132, Tryz.ntmps132
 go_wp2_with (first | (go_at_call 126; refine (bad_any _ _).mono ?_; rintro e w' ⟨rfl, rfl⟩; first | rw [f2] | rw [f3]) | (go_at_call 127; refine (endless_any _ _).mono ?_; rintro e w' ⟨rfl, rfl⟩; rw [f4]) | (go_at_call 79; refine (abs_any _ _).mono ?_; rintro e w' ⟨rfl, rfl⟩) | (go_at_call 146; refine (rinf_up _).mono ?_; rintro e w' ⟨rfl, rfl⟩) | (go_at_call 136; refine (rodd_any _ _).mono ?_; rintro e w' ⟨no, rfl, rfl⟩; rw [f6]) | (go_at_call 130; refine (rsigned_any _ _ _ (by decide) HX.out).mono ?_; rintro e w' ⟨rfl, rfl⟩))
 go_ret2
 first | exact ⟨_, 0, rfl, HV.out, rfl⟩ | exact ⟨_, _, rfl, HV.out, by first | rfl | (simp only [World.drewN_drewN]; rfl)⟩
theorem edge_5tf (x y : Nat) (w : World) (hx : x < 18446744073709551616) (f0 : eqz y = false) (f1 : eq1 x = false) (f2 : isN x = false) (f3 : isN y = false) (f4 : finf (cn y) = false) (f5 : eqz x = true) (f6 : oddB y = true) (f7 : ltz y = false) : Calls Tryz.prog 132 #[.float .f64 x, .float .f64 y] w (ESome (powNought x y) w) := by
 have HV : Hid (cn x = powNought x y) := qh (by rw [cn_of_notN f2]; simp [powNought, f0, f1, f2, f3, f4, f5, f6, f7])
 have q0 := ordQ f0
 have q1 := ordQ f1
 have q5 := ordQ f5
 have q7 := ordQ f7
 have HX := qh hx
 clear hx
 go_enter Tryz.func132, Tryz.ntmps132
 go_wp2_with (first | (go_at_call 126; refine (bad_any _ _).mono ?_; rintro e w' ⟨rfl, rfl⟩; first | rw [f2] | rw [f3]) | (go_at_call 127; refine (endless_any _ _).mono ?_; rintro e w' ⟨rfl, rfl⟩; rw [f4]) | (go_at_call 79; refine (abs_any _ _).mono ?_; rintro e w' ⟨rfl, rfl⟩) | (go_at_call 146; refine (rinf_up _).mono ?_; rintro e w' ⟨rfl, rfl⟩) | (go_at_call 136; refine (rodd_any _ _).mono ?_; rintro e w' ⟨no, rfl, rfl⟩; rw [f6]) | (go_at_call 130; refine (rsigned_any _ _ _ (by decide) HX.out).mono ?_; rintro e w' ⟨rfl, rfl⟩))
 go_ret2
 first | exact ⟨_, 0, rfl, HV.out, rfl⟩ | exact ⟨_, _, rfl, HV.out, by first | rfl | (simp only [World.drewN_drewN]; rfl)⟩
theorem edge_5ft (x y : Nat) (w : World) (hx : x < 18446744073709551616) (f0 : eqz y = false) (f1 : eq1 x = false) (f2 : isN x = false) (f3 : isN y = false) (f4 : finf (cn y) = false) (f5 : eqz x = true) (f6 : oddB y = false) (f7 : ltz y = true) : Calls Tryz.prog 132 #[.float .f64 x, .float .f64 y] w (ESome (powNought x y) w) := by
 have HV : Hid (cn pinf = powNought x y) := qh (by rw [cn_pinf]; simp [powNought, f0, f1, f2, f3, f4, f5, f6, f7])
 have q0 := ordQ f0
 have q1 := ordQ f1
 have q5 := ordQ f5
 have q7 := ordQ f7
 have HX := qh hx
 clear hx
 go_enter Tryz.func132, Tryz.ntmps132
 go_wp2_with (first | (go_at_call 126; refine (bad_any _ _).mono ?_; rintro e w' ⟨rfl, rfl⟩; first | rw [f2] | rw [f3]) | (go_at_call 127; refine (endless_any _ _).mono ?_; rintro e w' ⟨rfl, rfl⟩; rw [f4]) | (go_at_call 79; refine (abs_any _ _).mono ?_; rintro e w' ⟨rfl, rfl⟩) | (go_at_call 146; refine (rinf_up _).mono ?_; rintro e w' ⟨rfl, rfl⟩) | (go_at_call 136; refine (rodd_any _ _).mono ?_; rintro e w' ⟨no, rfl, rfl⟩; rw [f6]) | (go_at_call 130; refine (rsigned_any _ _ _ (by decide) HX.out).mono ?_; rintro e w' ⟨rfl, rfl⟩))
 go_ret2
 first | exact ⟨_, 0, rfl, HV.out, rfl⟩ | exact ⟨_, _, rfl, HV.out, by first | rfl | (simp only [World.drewN_drewN]; rfl)⟩
theorem edge_5ff (x y : Nat) (w : World) (hx : x < 18446744073709551616) (f0 : eqz y = false) (f1 : eq1 x = false) (f2 : isN x = false) (f3 : isN y = false) (f4 : finf (cn y) = false) (f5 : eqz x = true) (f6 : oddB y = false) (f7 : ltz y = false) : Calls Tryz.prog 132 #[.float .f64 x, .float .f64 y] w (ESome (powNought x y) w) := by
 have HV : Hid (cn 0 = powNought x y) := qh (by rw [cn_zero]; simp [powNought, f0, f1, f2, f3, f4, f5, f6, f7])
 have q0 := ordQ f0
 have q1 := ordQ f1
 have q5 := ordQ f5
 have q7 := ordQ f7
 have HX := qh hx
 clear hx
 go_enter Tryz.func132, Tryz.ntmps132
 go_wp2_with (first | (go_at_call 126; refine (bad_any _ _).mono ?_; rintro e w' ⟨rfl, rfl⟩; first | rw [f2] | rw [f3]) | (go_at_call 127; refine (endless_any _ _).mono ?_; rintro e w' ⟨rfl, rfl⟩; rw [f4]) | (go_at_call 79; refine (abs_any _ _).mono ?_; rintro e w' ⟨rfl, rfl⟩) | (go_at_call 146; refine (rinf_up _).mono ?_; rintro e w' ⟨rfl, rfl⟩) | (go_at_call 136; refine (rodd_any _ _).mono ?_; rintro e w' ⟨no, rfl, rfl⟩; rw [f6]) | (go_at_call 130; refine (rsigned_any _ _ _ (by decide) HX.out).mono ?_; rintro e w' ⟨rfl, rfl⟩))
 go_ret2
 first | exact ⟨_, 0, rfl, HV.out, rfl⟩ | exact ⟨_, _, rfl, HV.out, by first | rfl | (simp only [World.drewN_drewN]; rfl)⟩
theorem edge_6ttt (x y : Nat) (w : World)  (f0 : eqz y = false) (f1 : eq1 x = false) (f2 : isN x = false) (f3 : isN y = false) (f4 : finf (cn y) = false) (f5 : eqz x = false) (f6 : finf (cn x) = true) (f7 : ltz x = true) (f8 : gtz y = true) (f9 : oddB y = true) : Calls Tryz.prog 132 #[.float .f64 x, .float .f64 y] w (ESome (powInf x y) w) := by
 have HV : Hid (cn ninf = powInf x y) := qh (by simp [powFar, powNought, powInf, f0, f1, f2, f3, f4, f5, f6, f7, f8, f9]; decide +kernel)
 have q0 := ordQ f0
 have q1 := ordQ f1
 have q5 := ordQ f5
 have q7 := ordQ f7
 have q8 := ordQ f8
 go_enter Tryz.func132, Tryz.ntmps132
 go_wp2_with (first | (go_at_call 126; refine (bad_any _ _).mono ?_; rintro e w' ⟨rfl, rfl⟩; first | rw [f2] | rw [f3]) | (go_at_call 127; refine (endless_any _ _).mono ?_; rintro e w' ⟨rfl, rfl⟩; first | rw [f4] | rw [f6]) | (go_at_call 79; refine (abs_any _ _).mono ?_; rintro e w' ⟨rfl, rfl⟩) | (go_at_call 146; refine (rinf_down _).mono ?_; rintro e w' ⟨rfl, rfl⟩) | (go_at_call 136; refine (rodd_any _ _).mono ?_; rintro e w' ⟨no, rfl, rfl⟩; rw [f9]) | (go_at_call 130; refine (rsigned_any _ _ _ (by decide) (by decide)).mono ?_; rintro e w' ⟨rfl, rfl⟩))
 go_ret2
 first | exact ⟨_, 0, rfl, HV.out, rfl⟩ | exact ⟨_, _, rfl, HV.out, by first | rfl | (simp only [World.drewN_drewN]; rfl)⟩
theorem edge_6ttf (x y : Nat) (w : World)  (f0 : eqz y = false) (f1 : eq1 x = false) (f2 : isN x = false) (f3 : isN y = false) (f4 : finf (cn y) = false) (f5 : eqz x = false) (f6 : finf (cn x) = true) (f7 : ltz x = true) (f8 : gtz y = false) (f9 : oddB y = true) : Calls Tryz.prog 132 #[.float .f64 x, .float .f64 y] w (ESome (powInf x y) w) := by
 have HV : Hid (cn (Ieee.double.word (sgn 13830554455654793216) 0) = powInf x y) := qh (by simp [powFar, powNought, powInf, f0, f1, f2, f3, f4, f5, f6, f7, f8, f9]; decide +kernel)
 have q0 := ordQ f0
 have q1 := ordQ f1
 have q5 := ordQ f5
 have q7 := ordQ f7
 have q8 := ordQ f8
 go_enter Tryz.func132, Tryz.ntmps132
 go_wp2_with (first | (go_at_call 126; refine (bad_any _ _).mono ?_; rintro e w' ⟨rfl, rfl⟩; first | rw [f2] | rw [f3]) | (go_at_call 127; refine (endless_any _ _).mono ?_; rintro e w' ⟨rfl, rfl⟩; first | rw [f4] | rw [f6]) | (go_at_call 79; refine (abs_any _ _).mono ?_; rintro e w' ⟨rfl, rfl⟩) | (go_at_call 146; refine (rinf_down _).mono ?_; rintro e w' ⟨rfl, rfl⟩) | (go_at_call 136; refine (rodd_any _ _).mono ?_; rintro e w' ⟨no, rfl, rfl⟩; rw [f9]) | (go_at_call 130; refine (rsigned_any _ _ _ (by decide) (by decide)).mono ?_; rintro e w' ⟨rfl, rfl⟩))
 go_ret2
 first | exact ⟨_, 0, rfl, HV.out, rfl⟩ | exact ⟨_, _, rfl, HV.out, by first | rfl | (simp only [World.drewN_drewN]; rfl)⟩
theorem edge_6tft (x y : Nat) (w : World)  (f0 : eqz y = false) (f1 : eq1 x = false) (f2 : isN x = false) (f3 : isN y = false) (f4 : finf (cn y) = false) (f5 : eqz x = false) (f6 : finf (cn x) = true) (f7 : ltz x = true) (f8 : gtz y = true) (f9 : oddB y = false) : Calls Tryz.prog 132 #[.float .f64 x, .float .f64 y] w (ESome (powInf x y) w) := by
 have HV : Hid (cn pinf = powInf x y) := qh (by simp [powFar, powNought, powInf, f0, f1, f2, f3, f4, f5, f6, f7, f8, f9]; decide +kernel)
 have q0 := ordQ f0
 have q1 := ordQ f1
 have q5 := ordQ f5
 have q7 := ordQ f7
 have q8 := ordQ f8
 go_enter Tryz.func132, Tryz.ntmps132
 go_wp2_with (first | (go_at_call 126; refine (bad_any _ _).mono ?_; rintro e w' ⟨rfl, rfl⟩; first | rw [f2] | rw [f3]) | (go_at_call 127; refine (endless_any _ _).mono ?_; rintro e w' ⟨rfl, rfl⟩; first | rw [f4] | rw [f6]) | (go_at_call 79; refine (abs_any _ _).mono ?_; rintro e w' ⟨rfl, rfl⟩) | (go_at_call 146; refine (rinf_up _).mono ?_; rintro e w' ⟨rfl, rfl⟩) | (go_at_call 136; refine (rodd_any _ _).mono ?_; rintro e w' ⟨no, rfl, rfl⟩; rw [f9]) | (go_at_call 130; refine (rsigned_any _ _ _ (by decide) (by decide)).mono ?_; rintro e w' ⟨rfl, rfl⟩))
 go_ret2
 first | exact ⟨_, 0, rfl, HV.out, rfl⟩ | exact ⟨_, _, rfl, HV.out, by first | rfl | (simp only [World.drewN_drewN]; rfl)⟩
theorem edge_6tff (x y : Nat) (w : World)  (f0 : eqz y = false) (f1 : eq1 x = false) (f2 : isN x = false) (f3 : isN y = false) (f4 : finf (cn y) = false) (f5 : eqz x = false) (f6 : finf (cn x) = true) (f7 : ltz x = true) (f8 : gtz y = false) (f9 : oddB y = false) : Calls Tryz.prog 132 #[.float .f64 x, .float .f64 y] w (ESome (powInf x y) w) := by
 have HV : Hid (cn 0 = powInf x y) := qh (by simp [powFar, powNought, powInf, f0, f1, f2, f3, f4, f5, f6, f7, f8, f9]; decide +kernel)
 have q0 := ordQ f0
 have q1 := ordQ f1
 have q5 := ordQ f5
 have q7 := ordQ f7
 have q8 := ordQ f8
 go_enter Tryz.func132, Tryz.ntmps132
 go_wp2_with (first | (go_at_call 126; refine (bad_any _ _).mono ?_; rintro e w' ⟨rfl, rfl⟩; first | rw [f2] | rw [f3]) | (go_at_call 127; refine (endless_any _ _).mono ?_; rintro e w' ⟨rfl, rfl⟩; first | rw [f4] | rw [f6]) | (go_at_call 79; refine (abs_any _ _).mono ?_; rintro e w' ⟨rfl, rfl⟩) | (go_at_call 146; refine (rinf_up _).mono ?_; rintro e w' ⟨rfl, rfl⟩) | (go_at_call 136; refine (rodd_any _ _).mono ?_; rintro e w' ⟨no, rfl, rfl⟩; rw [f9]) | (go_at_call 130; refine (rsigned_any _ _ _ (by decide) (by decide)).mono ?_; rintro e w' ⟨rfl, rfl⟩))
 go_ret2
 first | exact ⟨_, 0, rfl, HV.out, rfl⟩ | exact ⟨_, _, rfl, HV.out, by first | rfl | (simp only [World.drewN_drewN]; rfl)⟩
theorem edge_6ftt (x y : Nat) (w : World)  (f0 : eqz y = false) (f1 : eq1 x = false) (f2 : isN x = false) (f3 : isN y = false) (f4 : finf (cn y) = false) (f5 : eqz x = false) (f6 : finf (cn x) = true) (f7 : ltz x = false) (f8 : gtz y = true) : Calls Tryz.prog 132 #[.float .f64 x, .float .f64 y] w (ESome (powInf x y) w) := by
 have HV : Hid (cn pinf = powInf x y) := qh (by simp [powFar, powNought, powInf, f0, f1, f2, f3, f4, f5, f6, f7, f8]; decide +kernel)
 have q0 := ordQ f0
 have q1 := ordQ f1
 have q5 := ordQ f5
 have q7 := ordQ f7
 have q8 := ordQ f8
 go_enter Tryz.func132, Tryz.ntmps132
 go_wp2_with (first | (go_at_call 126; refine (bad_any _ _).mono ?_; rintro e w' ⟨rfl, rfl⟩; first | rw [f2] | rw [f3]) | (go_at_call 127; refine (endless_any _ _).mono ?_; rintro e w' ⟨rfl, rfl⟩; first | rw [f4] | rw [f6]) | (go_at_call 79; refine (abs_any _ _).mono ?_; rintro e w' ⟨rfl, rfl⟩) | (go_at_call 146; refine (rinf_up _).mono ?_; rintro e w' ⟨rfl, rfl⟩) | (go_at_call 136; refine (rodd_any _ _).mono ?_; rintro e w' ⟨no, rfl, rfl⟩; rw [f9]) | (go_at_call 130; refine (rsigned_any _ _ _ (by decide) (by decide)).mono ?_; rintro e w' ⟨rfl, rfl⟩))
 go_ret2
 first | exact ⟨_, 0, rfl, HV.out, rfl⟩ | exact ⟨_, _, rfl, HV.out, by first | rfl | (simp only [World.drewN_drewN]; rfl)⟩
theorem edge_6ftf (x y : Nat) (w : World)  (f0 : eqz y = false) (f1 : eq1 x = false) (f2 : isN x = false) (f3 : isN y = false) (f4 : finf (cn y) = false) (f5 : eqz x = false) (f6 : finf (cn x) = true) (f7 : ltz x = false) (f8 : gtz y = false) : Calls Tryz.prog 132 #[.float .f64 x, .float .f64 y] w (ESome (powInf x y) w) := by
 have HV : Hid (cn 0 = powInf x y) := qh (by simp [powFar, powNought, powInf, f0, f1, f2, f3, f4, f5, f6, f7, f8]; decide +kernel)
 have q0 := ordQ f0
 have q1 := ordQ f1
 have q5 := ordQ f5
 have q7 := ordQ f7
 have q8 := ordQ f8
 go_enter Tryz.func132, Tryz.ntmps132
 go_wp2_with (first | (go_at_call 126; refine (bad_any _ _).mono ?_; rintro e w' ⟨rfl, rfl⟩; first | rw [f2] | rw [f3]) | (go_at_call 127; refine (endless_any _ _).mono ?_; rintro e w' ⟨rfl, rfl⟩; first | rw [f4] | rw [f6]) | (go_at_call 79; refine (abs_any _ _).mono ?_; rintro e w' ⟨rfl, rfl⟩) | (go_at_call 146; refine (rinf_up _).mono ?_; rintro e w' ⟨rfl, rfl⟩) | (go_at_call 136; refine (rodd_any _ _).mono ?_; rintro e w' ⟨no, rfl, rfl⟩; rw [f9]) | (go_at_call 130; refine (rsigned_any _ _ _ (by decide) (by decide)).mono ?_; rintro e w' ⟨rfl, rfl⟩))
 go_ret2
 first | exact ⟨_, 0, rfl, HV.out, rfl⟩ | exact ⟨_, _, rfl, HV.out, by first | rfl | (simp only [World.drewN_drewN]; rfl)⟩
theorem edge_7 (x y : Nat) (w : World)  (f0 : eqz y = false) (f1 : eq1 x = false) (f2 : isN x = false) (f3 : isN y = false) (f4 : finf (cn y) = false) (f5 : eqz x = false) (f6 : finf (cn x) = false) : Calls Tryz.prog 132 #[.float .f64 x, .float .f64 y] w (ENone w) := by
 have q0 := ordQ f0
 have q1 := ordQ f1
 have q5 := ordQ f5
 go_enter Tryz.func132, Tryz.ntmps132
 go_wp2_with (first | (go_at_call 126; refine (bad_any _ _).mono ?_; rintro e w' ⟨rfl, rfl⟩; first | rw [f2] | rw [f3]) | (go_at_call 127; refine (endless_any _ _).mono ?_; rintro e w' ⟨rfl, rfl⟩; first | rw [f4] | rw [f6]) | (go_at_call 79; refine (abs_any _ _).mono ?_; rintro e w' ⟨rfl, rfl⟩))
 go_ret2
 first | exact ⟨0, rfl, rfl⟩ | exact ⟨_, rfl, by first | rfl | (simp only [World.drewN_drewN]; rfl)⟩
theorem redge_some (x y v : Nat) (w : World) (h64 : W64 x) (h : edgeS x y = some v) : Calls Tryz.prog 132 #[.float .f64 x, .float .f64 y] w (ESome v w) := by
 unfold edgeS at h
 cases f0 : eqz y
 case true => simp [f0] at h; subst h; exact edge_0 x y w f0
 cases f1 : eq1 x
 case true => simp [f0, f1] at h; subst h; exact edge_1 x y w f0 f1
 cases f2 : isN x
 case true => simp [f0, f1, f2] at h; subst h; exact edge_2 x y w f0 f1 f2
 cases f3 : isN y
 case true => simp [f0, f1, f2, f3] at h; subst h; exact edge_3 x y w f0 f1 f2 f3
 cases f4 : finf (cn y)
 case true =>
  simp [f0, f1, f2, f3, f4] at h; subst h
  cases g1 : eqm1 x
  ·cases g2 : gtA1 x <;> cases g3 : gtz y
   ·exact edge_4ff x y w f0 f1 f2 f3 f4 g1 g2 g3
   ·exact edge_4ft x y w f0 f1 f2 f3 f4 g1 g2 g3
   ·exact edge_4tf x y w f0 f1 f2 f3 f4 g1 g2 g3
   ·exact edge_4tt x y w f0 f1 f2 f3 f4 g1 g2 g3
  ·exact edge_4 x y w f0 f1 f2 f3 f4 g1
 cases f5 : eqz x
 case true =>
  simp [f0, f1, f2, f3, f4, f5] at h; subst h
  have hx : x < 18446744073709551616 := by unfold W64 at h64; rwa [cn_of_notN f2] at h64
  cases g1 : oddB y <;> cases g2 : ltz y
  ·exact edge_5ff x y w hx f0 f1 f2 f3 f4 f5 g1 g2
  ·exact edge_5ft x y w hx f0 f1 f2 f3 f4 f5 g1 g2
  ·exact edge_5tf x y w hx f0 f1 f2 f3 f4 f5 g1 g2
  ·exact edge_5tt x y w hx f0 f1 f2 f3 f4 f5 g1 g2
 cases f6 : finf (cn x)
 case true =>
  simp [f0, f1, f2, f3, f4, f5, f6] at h; subst h
  cases g1 : ltz x <;> cases g2 : gtz y
  ·exact edge_6ftf x y w f0 f1 f2 f3 f4 f5 f6 g1 g2
  ·exact edge_6ftt x y w f0 f1 f2 f3 f4 f5 f6 g1 g2
  ·cases g3 : oddB y
   ·exact edge_6tff x y w f0 f1 f2 f3 f4 f5 f6 g1 g2 g3
   ·exact edge_6ttf x y w f0 f1 f2 f3 f4 f5 f6 g1 g2 g3
  ·cases g3 : oddB y
   ·exact edge_6tft x y w f0 f1 f2 f3 f4 f5 f6 g1 g2 g3
   ·exact edge_6ttt x y w f0 f1 f2 f3 f4 f5 f6 g1 g2 g3
 simp [f0, f1, f2, f3, f4, f5, f6] at h
theorem redge_none (x y : Nat) (w : World) (h : edgeS x y = none) : Calls Tryz.prog 132 #[.float .f64 x, .float .f64 y] w (ENone w) := by
 unfold edgeS at h
 cases f0 : eqz y
 case true => simp [f0] at h
 cases f1 : eq1 x
 case true => simp [f1] at h
 cases f2 : isN x
 case true => simp [f0, f1, f2] at h
 cases f3 : isN y
 case true => simp [f0, f1, f3] at h
 cases f4 : finf (cn y)
 case true => simp [f0, f1, f2, f3, f4] at h
 cases f5 : eqz x
 case true => simp [f0, f1, f2, f3, f4, f5] at h
 cases f6 : finf (cn x)
 case true => simp [f0, f1, f2, f3, f4, f5, f6] at h
 exact edge_7 x y w f0 f1 f2 f3 f4 f5 f6
theorem rpow_8tt (x y : Nat) (w : World) (hen : edgeS x y = none) (f0 : wholeB y = true) (f1 : absLe y = false) (f2 : ltz x = true) (f3 : oddB y = true) : Calls Tryz.prog 97 #[.float .f64 x, .float .f64 y] w (FRet (powS x y) w) := by
 have HV : Hid (fneg (powE x y) = powS x y) := qh (by simp [powS, hen, powRest, f0, f1, f2, f3])
 have q1 : (FloatKind.f64.format.order (y % top) 4652218415073722368 == some .lt || FloatKind.f64.format.order (y % top) 4652218415073722368 == some .eq) = false := f1
 have q2 := ordQ f2
 have HEN := qh hen
 clear hen
 go_enter Tryz.func97, Tryz.ntmps97
 go_wp2_with (first | (go_at_call 132; refine (redge_none _ _ _ HEN.out).mono ?_; rintro e w' ⟨ne, rfl, rfl⟩) | (go_at_call 79; refine (abs_any _ _).mono ?_; rintro e w' ⟨rfl, rfl⟩) | (go_at_call 133; refine (rwhole2_any _ _).mono ?_; rintro e w' ⟨nw, rfl, rfl⟩; rw [f0]) | (go_at_call 135; refine (refln_any _ _ (w64_abs x)).mono ?_; rintro e w' ⟨rl, nl, rfl, hrl, rfl⟩; have HRL := qh hrl; clear hrl) | (refine wpList_fop .mul _ _ _ _ y rl rfl rfl rfl ?_; intro rm nm hrm; have HRM := qh hrm; clear hrm) | (go_at_call 134; refine (refexp_any _ _).mono ?_; rintro e w' ⟨rv, nv, rfl, hrv, rfl⟩; have HRV := qh hrv; clear hrv) | (go_at_call 136; refine (rodd_any _ _).mono ?_; rintro e w' ⟨no, rfl, rfl⟩; rw [f3]) | simp only [neg_run])
 go_ret
 exact ⟨_, _, rfl, by rw [← HV.out, cn_neg, HRV.out, HRM.out, HRL.out]; rfl, by first | rfl | (simp only [World.drewN_drewN]; rfl)⟩
theorem rpow_8tf (x y : Nat) (w : World) (hen : edgeS x y = none) (f0 : wholeB y = true) (f1 : absLe y = false) (f2 : ltz x = true) (f3 : oddB y = false) : Calls Tryz.prog 97 #[.float .f64 x, .float .f64 y] w (FRet (powS x y) w) := by
 have HV : Hid (powE x y = powS x y) := qh (by simp [powS, hen, powRest, f0, f1, f2, f3])
 have q1 : (FloatKind.f64.format.order (y % top) 4652218415073722368 == some .lt || FloatKind.f64.format.order (y % top) 4652218415073722368 == some .eq) = false := f1
 have q2 := ordQ f2
 have HEN := qh hen
 clear hen
 go_enter Tryz.func97, Tryz.ntmps97
 go_wp2_with (first | (go_at_call 132; refine (redge_none _ _ _ HEN.out).mono ?_; rintro e w' ⟨ne, rfl, rfl⟩) | (go_at_call 79; refine (abs_any _ _).mono ?_; rintro e w' ⟨rfl, rfl⟩) | (go_at_call 133; refine (rwhole2_any _ _).mono ?_; rintro e w' ⟨nw, rfl, rfl⟩; rw [f0]) | (go_at_call 135; refine (refln_any _ _ (w64_abs x)).mono ?_; rintro e w' ⟨rl, nl, rfl, hrl, rfl⟩; have HRL := qh hrl; clear hrl) | (refine wpList_fop .mul _ _ _ _ y rl rfl rfl rfl ?_; intro rm nm hrm; have HRM := qh hrm; clear hrm) | (go_at_call 134; refine (refexp_any _ _).mono ?_; rintro e w' ⟨rv, nv, rfl, hrv, rfl⟩; have HRV := qh hrv; clear hrv) | (go_at_call 136; refine (rodd_any _ _).mono ?_; rintro e w' ⟨no, rfl, rfl⟩; rw [f3]) | simp only [neg_run])
 go_ret
 exact ⟨_, _, rfl, by rw [← HV.out, HRV.out, HRM.out, HRL.out]; rfl, by first | rfl | (simp only [World.drewN_drewN]; rfl)⟩
theorem rpow_8f (x y : Nat) (w : World) (hen : edgeS x y = none) (f0 : wholeB y = true) (f1 : absLe y = false) (f2 : ltz x = false) : Calls Tryz.prog 97 #[.float .f64 x, .float .f64 y] w (FRet (powS x y) w) := by
 have HV : Hid (powE x y = powS x y) := qh (by simp [powS, hen, powRest, f0, f1, f2])
 have q1 : (FloatKind.f64.format.order (y % top) 4652218415073722368 == some .lt || FloatKind.f64.format.order (y % top) 4652218415073722368 == some .eq) = false := f1
 have q2 := ordQ f2
 have HEN := qh hen
 clear hen
 go_enter Tryz.func97, Tryz.ntmps97
 go_wp2_with (first | (go_at_call 132; refine (redge_none _ _ _ HEN.out).mono ?_; rintro e w' ⟨ne, rfl, rfl⟩) | (go_at_call 79; refine (abs_any _ _).mono ?_; rintro e w' ⟨rfl, rfl⟩) | (go_at_call 133; refine (rwhole2_any _ _).mono ?_; rintro e w' ⟨nw, rfl, rfl⟩; rw [f0]) | (go_at_call 135; refine (refln_any _ _ (w64_abs x)).mono ?_; rintro e w' ⟨rl, nl, rfl, hrl, rfl⟩; have HRL := qh hrl; clear hrl) | (refine wpList_fop .mul _ _ _ _ y rl rfl rfl rfl ?_; intro rm nm hrm; have HRM := qh hrm; clear hrm) | (go_at_call 134; refine (refexp_any _ _).mono ?_; rintro e w' ⟨rv, nv, rfl, hrv, rfl⟩; have HRV := qh hrv; clear hrv) | (go_at_call 136; refine (rodd_any _ _).mono ?_; rintro e w' ⟨no, rfl, rfl⟩; rw [f0]) | simp only [neg_run])
 go_ret
 exact ⟨_, _, rfl, by rw [← HV.out, HRV.out, HRM.out, HRL.out]; rfl, by first | rfl | (simp only [World.drewN_drewN]; rfl)⟩
theorem rpow_9t (x y : Nat) (w : World) (hen : edgeS x y = none) (f0 : wholeB y = false) (f1 : ltz x = true) : Calls Tryz.prog 97 #[.float .f64 x, .float .f64 y] w (FRet (powS x y) w) := by
 have HV : Hid (cn 9221120237041090561 = powS x y) := qh (by simp [powS, hen, powRest, f0, f1]; decide +kernel)
 have q1 := ordQ f1
 have HEN := qh hen
 clear hen
 go_enter Tryz.func97, Tryz.ntmps97
 go_wp2_with (first | (go_at_call 132; refine (redge_none _ _ _ HEN.out).mono ?_; rintro e w' ⟨ne, rfl, rfl⟩) | (go_at_call 79; refine (abs_any _ _).mono ?_; rintro e w' ⟨rfl, rfl⟩) | (go_at_call 133; refine (rwhole2_any _ _).mono ?_; rintro e w' ⟨nw, rfl, rfl⟩; rw [f0]) | (go_at_call 128; refine (refnan_any _).mono ?_; rintro e w' ⟨rfl, rfl⟩))
 go_ret
 exact ⟨_, _, rfl, HV.out, by first | rfl | (simp only [World.drewN_drewN]; rfl)⟩
theorem rpow_9f (x y : Nat) (w : World) (hen : edgeS x y = none) (f0 : wholeB y = false) (f1 : ltz x = false) : Calls Tryz.prog 97 #[.float .f64 x, .float .f64 y] w (FRet (powS x y) w) := by
 have HV : Hid (powE x y = powS x y) := qh (by simp [powS, hen, powRest, f0, f1])
 have q1 := ordQ f1
 have HEN := qh hen
 clear hen
 go_enter Tryz.func97, Tryz.ntmps97
 go_wp2_with (first | (go_at_call 132; refine (redge_none _ _ _ HEN.out).mono ?_; rintro e w' ⟨ne, rfl, rfl⟩) | (go_at_call 79; refine (abs_any _ _).mono ?_; rintro e w' ⟨rfl, rfl⟩) | (go_at_call 133; refine (rwhole2_any _ _).mono ?_; rintro e w' ⟨nw, rfl, rfl⟩; rw [f0]) | (go_at_call 135; refine (refln_any _ _ (w64_abs x)).mono ?_; rintro e w' ⟨rl, nl, rfl, hrl, rfl⟩; have HRL := qh hrl; clear hrl) | (refine wpList_fop .mul _ _ _ _ y rl rfl rfl rfl ?_; intro rm nm hrm; have HRM := qh hrm; clear hrm) | (go_at_call 134; refine (refexp_any _ _).mono ?_; rintro e w' ⟨rv, nv, rfl, hrv, rfl⟩; have HRV := qh hrv; clear hrv) | (go_at_call 136; refine (rodd_any _ _).mono ?_; rintro e w' ⟨no, rfl, rfl⟩; rw [f0]) | simp only [neg_run])
 go_ret
 exact ⟨_, _, rfl, by rw [← HV.out, HRV.out, HRM.out, HRL.out]; rfl, by first | rfl | (simp only [World.drewN_drewN]; rfl)⟩
theorem rpow_some (x y v : Nat) (w : World) (h64 : W64 x) (h : edgeS x y = some v) : Calls Tryz.prog 97 #[.float .f64 x, .float .f64 y] w (FRet (powS x y) w) := by
 have HV : Hid (v = powS x y) := qh (by simp [powS, h])
 have HE := qh (fun w => redge_some x y v w h64 h)
 clear h64 h
 go_enter Tryz.func97, Tryz.ntmps97
 go_wp2_with (go_at_call 132; refine (HE.out _).mono ?_; rintro e w' ⟨rs, ns, rfl, hrs, rfl⟩; have HRS := qh hrs; clear hrs)
 go_ret
 exact ⟨_, _, rfl, HRS.out.trans HV.out, by first | rfl | (simp only [World.drewN_drewN]; rfl)⟩
theorem rpow_whole (x y : Nat) (w : World) (hen : edgeS x y = none) (f0 : wholeB y = true) (h : absLe y = true) : Calls Tryz.prog 97 #[.float .f64 x, .float .f64 y] w (FRet (powS x y) w) := by
 have HPS : Hid (powS x y = powW x y) := qh (by simp [powS, hen, powRest, f0, h])
 have q1 : (FloatKind.f64.format.order (y % top) 4652218415073722368 == some .lt || FloatKind.f64.format.order (y % top) 4652218415073722368 == some .eq) = true := h
 have HEN := qh hen
 clear hen
 obtain ⟨hc, hN⟩ := powN_conv h
 obtain ⟨T, hT⟩ : ∃ T, T = powF 11 (powN y) (cn x) w1 := ⟨_, rfl⟩
 have HTT : Hid (powW x y = if ltz y then fdiv w1 T else T) := qh (by unfold powW; rw [← hT])
 have hcv := fun w' => run_convert_float_int (P := Tryz.prog) w' 32 3 .f64 .i64 (y % top) _ (by kernel_rfl) Tryz.underlying3 hc
 have HST : ∀ n0, Hid (PowRel T w (.float .f64 x) (.float .f64 4607182418800017408) (.int .i64 ((powN y : Nat) : Int)) (w.drewN n0)) := fun n0 => qh ⟨x, _, powN y, 11, n0, rfl, rfl, rfl, by omega, hN, by rw [hT, show cn 4607182418800017408 = w1 by decide +kernel], rfl⟩
 have hl : (FloatKind.f64.format.order y 0 == some .lt) = ltz y := rfl
 generalize powN y = N at *
 clear h hc hN hT
 go_enter Tryz.func97, Tryz.ntmps97
 go_wp2_with (first | (go_at_call 132; refine (redge_none _ _ _ HEN.out).mono ?_; rintro e w' ⟨ne, rfl, rfl⟩) | (go_at_call 133; refine (rwhole2_any _ _).mono ?_; rintro e w' ⟨nw, rfl, rfl⟩; rw [f0]) | (go_at_call 79; refine (abs_any _ _).mono ?_; rintro e w' ⟨rfl, rfl⟩) | simp only [hcv])
 go_loopw [7, 8, 9] (PowRel T w) (fun _ _ v _ => (intOf v).toNat)
 case atStart => exact (HST _).out
 case round =>
  obtain ⟨a, r, n, k, m, rfl, rfl, rfl, hk, hn, hT, rfl⟩ := hrel
  have n1 : (0 : Int) ≤ (n : Int) := by omega
  have n2 : (n : Int) ≤ 1024 := by omega
  by_cases h0 : 0 < n
  ·have d0 : decide (0 < n) = true := decide_eq_true (by omega)
   obtain ⟨k', rfl⟩ : ∃ k', k = k' + 1 := ⟨k - 1, by rcases Nat.eq_zero_or_pos k with h | h; (· rw [h, Nat.pow_zero] at hk; omega); (· omega)⟩
   obtain ⟨q, hq⟩ : ∃ q, q = n / 2 := ⟨_, rfl⟩
   have hdv : (n : Int).tdiv 2 = (q : Int) := by rw [Int.tdiv_eq_ediv_of_nonneg n1]; omega
   have hmd : (n : Int).tmod 2 = (n : Int) % 2 := Int.tmod_eq_emod_of_nonneg n1
   have q1 : (0 : Int) ≤ (q : Int) := by omega
   have q2 : (q : Int) ≤ 1024 := by omega
   have HQ := qh hq
   have HK : Hid (q < 2 ^ k') := qh (by rw [Nat.pow_succ] at hk; omega)
   have HT := qh hT
   have H0 := qh h0
   by_cases hodd : n % 2 = 1
   ·have d1 : ((n : Int) % 2 == 1) = true := by simp; omega
    have HO := qh hodd
    by_cases h2 : 2 ≤ n
    ·have d2 : decide (0 < q) = true := decide_eq_true (by omega)
     have H2 := qh h2
     clear hk hn hT h0 hq hodd h2
     go_wp2_with (first | (refine wpList_fop .mul _ _ _ _ r a rfl rfl rfl ?_; intro r' nr hr; have HR := qh hr; clear hr) | (refine wpList_fop .mul _ _ _ _ a a rfl rfl rfl ?_; intro a' na ha; have HA := qh ha; clear ha))
     go_roundw
     case rel => exact ⟨a', r', q, k', _, rfl, rfl, rfl, HK.out, by have := HQ.out; omega, by rw [← HT.out, HQ.out]; exact (powF_step H0.out (by rw [if_pos H2.out]; exact HA.out) (by rw [if_pos HO.out]; exact HR.out)).symm, by first | rfl | (simp only [World.drewN_drewN]; rfl)⟩
     case measure => have := HQ.out; have := H0.out; simp [intOf]; omega
    ·have d2 : decide (0 < q) = false := decide_eq_false (by omega)
     have H2 := qh h2
     clear hk hn hT h0 hq hodd h2
     go_wp2_with (refine wpList_fop .mul _ _ _ _ r a rfl rfl rfl ?_; intro r' nr hr; have HR := qh hr; clear hr)
     go_roundw
     case rel => exact ⟨a, r', q, k', _, rfl, rfl, rfl, HK.out, by have := HQ.out; omega, by rw [← HT.out, HQ.out]; exact (powF_step H0.out (by rw [if_neg H2.out]) (by rw [if_pos HO.out]; exact HR.out)).symm, by first | rfl | (simp only [World.drewN_drewN]; rfl)⟩
     case measure => have := HQ.out; have := H0.out; simp [intOf]; omega
   ·have d1 : ((n : Int) % 2 == 1) = false := by simp; omega
    have HO := qh hodd
    have h2 : 2 ≤ n := by omega
    have d2 : decide (0 < q) = true := decide_eq_true (by omega)
    have H2 := qh h2
    clear hk hn hT h0 hq hodd h2
    go_wp2_with (refine wpList_fop .mul _ _ _ _ a a rfl rfl rfl ?_; intro a' na ha; have HA := qh ha; clear ha)
    go_roundw
    case rel => exact ⟨a', r, q, k', _, rfl, rfl, rfl, HK.out, by have := HQ.out; omega, by rw [← HT.out, HQ.out]; exact (powF_step H0.out (by rw [if_pos H2.out]; exact HA.out) (by rw [if_neg HO.out])).symm, by first | rfl | (simp only [World.drewN_drewN]; rfl)⟩
    case measure => have := HQ.out; have := H0.out; simp [intOf]; omega
  ·have d0 : decide (0 < n) = false := decide_eq_false (by omega)
   have HR0 : Hid (cn r = T) := qh (by rw [← hT, show n = 0 by omega, powF_zero])
   clear hk hn hT h0
   cases hly : ltz y
   ·rw [hly] at hl
    have HV2 : Hid (powW x y = T) := qh (by rw [HTT.out, hly]; rfl)
    go_wp2_with fail
    go_ret
    exact ⟨_, _, rfl, by rw [HPS.out, HV2.out]; exact HR0.out, by first | rfl | (simp only [World.drewN_drewN]; rfl)⟩
   ·rw [hly] at hl
    have HV2 : Hid (powW x y = fdiv w1 T) := qh (by rw [HTT.out, hly]; rfl)
    go_wp2_with (refine wpList_fop .quo _ _ _ _ 4607182418800017408 r rfl rfl rfl ?_; intro r9 n9 hr9; have HR9 := qh hr9; clear hr9)
    go_ret
    exact ⟨_, _, rfl, by rw [HPS.out, HV2.out, HR9.out, HR0.out, show cn 4607182418800017408 = w1 by decide +kernel]; rfl, by first | rfl | (simp only [World.drewN_drewN]; rfl)⟩
theorem rpow_any (x y : Nat) (w : World) (h64 : W64 x) : Calls Tryz.prog 97 #[.float .f64 x, .float .f64 y] w (FRet (powS x y) w) := by
 cases h : edgeS x y with
 | some v => exact rpow_some x y v w h64 h
 | none =>
  cases f7 : wholeB y
  ·cases f8 : ltz x
   ·exact rpow_9f x y w h f7 f8
   ·exact rpow_9t x y w h f7 f8
  ·cases f8 : absLe y
   ·cases f9 : ltz x
    ·exact rpow_8f x y w h f7 f8 f9
    ·cases f10 : oddB y
     ·exact rpow_8tf x y w h f7 f8 f9 f10
     ·exact rpow_8tt x y w h f7 f8 f9 f10
   ·exact rpow_whole x y w h f7 f8
end Go.Proofs.YtmmfjknnbkcniaaGreatDoor
