/- weirlaw06.CalcPows returns true whatever comes in. -/
import Derived.Test.YtllphokepjekpaaPowC
namespace Go.Proofs.Ytllphokepjekpaa
open Go.Fl Go.Rel Go.RowKit
set_option linter.unusedSimpArgs false
set_option linter.unusedVariables false

def roundV (to : Nat) : Nat := fdiv 4607182418800017408 to
def roundS (x to : Nat) : Nat := fdiv (ffloor (fadd (fmul x (roundV to)) 4602678819172646912)) (roundV to)

set_option maxRecDepth 100000 in
theorem round_any (x y : Nat) (w : World) : Calls Try.prog 48 #[.float .f64 x, .float .f64 y] w (FRet (roundS (cn x) (cn y)) w) := by
  go_enter Try.func48, Try.ntmps48
  go_wp2_with (first | (refine wpList_fop .quo _ _ _ _ 4607182418800017408 y rfl rfl rfl ?_; intro rv nv hv; have HV := Lib.hid hv; clear hv) | (refine wpList_fop .mul _ _ _ _ x rv rfl rfl rfl ?_; intro rm nm hm; have HM := Lib.hid hm; clear hm) | (refine wpList_fop .add _ _ _ _ rm 4602678819172646912 rfl rfl rfl ?_; intro ra na ha; have HA := Lib.hid ha; clear ha) | (go_at_call 69; refine (floor_any _ _).mono ?_; rintro e w' ⟨rf, nf, rfl, hf, rfl⟩; have HF := Lib.hid hf; clear hf) | (refine wpList_fop .quo _ _ _ _ rf rv rfl rfl rfl ?_; intro rr nr hr; have HR := Lib.hid hr; clear hr))
  go_ret
  refine ⟨_, _, rfl, ?_, by first | rfl | (simp only [World.drewN_drewN]; rfl)⟩
  rw [HR.out, HF.out, HA.out, HM.out, HV.out, show cn 4607182418800017408 = 4607182418800017408 by decide +kernel, show cn 4602678819172646912 = 4602678819172646912 by decide +kernel]
  rfl
set_option maxRecDepth 100000 in
theorem rround_any (x y : Nat) (w : World) : Calls Try.prog 51 #[.float .f64 x, .float .f64 y] w (FRet (roundS (cn x) (cn y)) w) := by
  go_enter Try.func51, Try.ntmps51
  go_wp2_with (first | (refine wpList_fop .quo _ _ _ _ 4607182418800017408 y rfl rfl rfl ?_; intro rv nv hv; have HV := Lib.hid hv; clear hv) | (refine wpList_fop .mul _ _ _ _ x rv rfl rfl rfl ?_; intro rm nm hm; have HM := Lib.hid hm; clear hm) | (refine wpList_fop .add _ _ _ _ rm 4602678819172646912 rfl rfl rfl ?_; intro ra na ha; have HA := Lib.hid ha; clear ha) | (go_at_call 69; refine (floor_any _ _).mono ?_; rintro e w' ⟨rf, nf, rfl, hf, rfl⟩; have HF := Lib.hid hf; clear hf) | (refine wpList_fop .quo _ _ _ _ rf rv rfl rfl rfl ?_; intro rr nr hr; have HR := Lib.hid hr; clear hr))
  go_ret
  refine ⟨_, _, rfl, ?_, by first | rfl | (simp only [World.drewN_drewN]; rfl)⟩
  rw [HR.out, HF.out, HA.out, HM.out, HV.out, show cn 4607182418800017408 = 4607182418800017408 by decide +kernel, show cn 4602678819172646912 = 4602678819172646912 by decide +kernel]
  rfl

theorem pow_closed : powS 4611686018427387904 4621819117588971520 = 4652218415073722368 := by
  have h1 : edgeS 4611686018427387904 4621819117588971520 = none := by decide +kernel
  have h2 : wholeB 4621819117588971520 = true := by decide +kernel
  have h3 : absLe 4621819117588971520 = true := by decide +kernel
  have h4 : powW 4611686018427387904 4621819117588971520 = 4652218415073722368 := by decide +kernel
  simp only [powS, h1, Option.getD_none, powRest, h2, h3, Bool.and_self, if_true]
  exact h4
theorem mod_closed : modS 13840687554816376832 4613937818241073152 = 13835058055282163712 := by decide +kernel
theorem round_closed : roundS (cn 4619567317775286272) (cn 4617315517961601024) = 4617315517961601024 := by decide +kernel

set_option maxHeartbeats 4000000 in
set_option maxRecDepth 100000 in
theorem law_pows (x y : Nat) (w : World) (hx : W64 x) (hy : W64 y) :
    Calls Try.prog 13 #[.float .f64 x, .float .f64 y] w fun e w' => e = .returned (.bool true) ∧ Below w.heap.size w w' := by
  have ne1 : (FloatKind.f64.format.order 4652218415073722368 4652218415073722368 != some .eq) = false := by decide +kernel
  have ne2 : (FloatKind.f64.format.order 13835058055282163712 13835058055282163712 != some .eq) = false := by decide +kernel
  have ne3 : (FloatKind.f64.format.order 4617315517961601024 4617315517961601024 != some .eq) = false := by decide +kernel
  have HX := Lib.hid hx
  have HY := Lib.hid hy
  have H2 : Hid (W64 4611686018427387904) := Lib.hid (by unfold W64; decide +kernel)
  have H5 : Hid (W64 13840687554816376832) := Lib.hid (by unfold W64; decide +kernel)
  clear hx hy
  go_enter Try.func13, Try.ntmps13
  go_wp2_with fail
  refine (pow_any _ _ _ H2.out).mono ?_
  rintro e w1 ⟨r, n, rfl, hr, rfl⟩
  rw [pow_closed] at hr
  have := eq_of_cn hr (by decide +kernel)
  subst this
  clear hr
  go_wp2_with fail
  refine (cmod_any _ _ _ H5.out).mono ?_
  rintro e w1 ⟨r, n2, rfl, hr, rfl⟩
  rw [mod_closed] at hr
  have := eq_of_cn hr (by decide +kernel)
  subst this
  clear hr
  go_wp2_with fail
  refine (round_any _ _ _).mono ?_
  rintro e w1 ⟨r, n3, rfl, hr, rfl⟩
  rw [round_closed] at hr
  have := eq_of_cn hr (by decide +kernel)
  subst this
  clear hr
  go_wp2_with (first | (go_at_call 46; refine (pow_any _ _ _ HX.out).mono ?_; rintro e w' ⟨a1, n1, rfl, ha1, rfl⟩; have HA1 := Lib.hid ha1; clear ha1) | (go_at_call 49; refine (rpow_any _ _ _ HX.out).mono ?_; rintro e w' ⟨b1, m1, rfl, hb1, rfl⟩; have HB1 : (cn a1 == cn b1) = true := (by rw [HA1.out, hb1]; simp); clear hb1) | (go_at_call 47; refine (cmod_any _ _ _ HX.out).mono ?_; rintro e w' ⟨a2, n2, rfl, ha2, rfl⟩; have HA2 := Lib.hid ha2; clear ha2) | (go_at_call 50; refine (rmod_any _ _ _ HX.out HY.out).mono ?_; rintro e w' ⟨b2, m2, rfl, hb2, rfl⟩; have HB2 : (cn a2 == cn b2) = true := (by rw [HA2.out, hb2]; simp); clear hb2) | (go_at_call 48; refine (round_any _ _ _).mono ?_; rintro e w' ⟨a3, n3, rfl, ha3, rfl⟩; have HA3 := Lib.hid ha3; clear ha3) | (go_at_call 51; refine (rround_any _ _ _).mono ?_; rintro e w' ⟨b3, m3, rfl, hb3, rfl⟩; have HB3 : (cn a3 == cn b3) = true := (by rw [HA3.out, hb3]; simp); clear hb3) | (go_at_call 17; refine (alike_any _ _ _).mono ?_; rintro e w' ⟨rfl, rfl⟩; rw [HB1]) | (go_at_call 17; refine (alike_any _ _ _).mono ?_; rintro e w' ⟨rfl, rfl⟩; rw [HB2]) | (go_at_call 17; refine (alike_any _ _ _).mono ?_; rintro e w' ⟨rfl, rfl⟩; rw [HB3]))
  go_ret
  exact ⟨rfl, by repeat (first | exact Below.refl _ _ | refine Below.drewN' ?_ _)⟩

end Go.Proofs.Ytllphokepjekpaa
