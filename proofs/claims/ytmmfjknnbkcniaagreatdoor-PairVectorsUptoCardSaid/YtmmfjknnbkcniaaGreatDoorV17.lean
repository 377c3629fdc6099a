/- Exp on both sides. Logarithms: their parts and series on both sides. -/
import Derived.Test.YtmmfjknnbkcniaaGreatDoorV13
import Derived.Test.YtmmfjknnbkcniaaGreatDoorV15
set_option maxHeartbeats 64000000
set_option maxRecDepth 100000
namespace Go.Proofs.YtmmfjknnbkcniaaGreatDoor
open Go.Fl Go.Rel Go.RowKit
set_option linter.unusedSimpArgs false
set_option linter.unusedVariables false
theorem expTop_any (w : World) : Calls Tryz.prog 113 #[] w fun e w' => e = .returned (.float .f64 4649454530587146735) ∧ w = w' := by
 have hr := frombits_run 4649454530587146735 w
 go_enter Tryz.func113, Tryz.ntmps113
 go_wp2_with (simp only [hr])
 go_ret
 exact ⟨rfl, rfl⟩
theorem expLow_any (w : World) : Calls Tryz.prog 114 #[] w fun e w' => e = .returned (.float .f64 13873137513782915154) ∧ w = w' := by
 have hr := frombits_run 13873137513782915154 w
 go_enter Tryz.func114, Tryz.ntmps114
 go_wp2_with (simp only [hr])
 go_ret
 exact ⟨rfl, rfl⟩
theorem invLn2_any (w : World) : Calls Tryz.prog 115 #[] w fun e w' => e = .returned (.float .f64 4609176140021203710) ∧ w = w' := by
 have hr := frombits_run 4609176140021203710 w
 go_enter Tryz.func115, Tryz.ntmps115
 go_wp2_with (simp only [hr])
 go_ret
 exact ⟨rfl, rfl⟩
theorem lnHi_any (w : World) : Calls Tryz.prog 116 #[] w fun e w' => e = .returned (.float .f64 4604418534312771584) ∧ w = w' := by
 have hr := frombits_run 4604418534312771584 w
 go_enter Tryz.func116, Tryz.ntmps116
 go_wp2_with (simp only [hr])
 go_ret
 exact ⟨rfl, rfl⟩
theorem lnLo_any (w : World) : Calls Tryz.prog 117 #[] w fun e w' => e = .returned (.float .f64 4455313330490472685) ∧ w = w' := by
 have hr := frombits_run 4455313330490472685 w
 go_enter Tryz.func117, Tryz.ntmps117
 go_wp2_with (simp only [hr])
 go_ret
 exact ⟨rfl, rfl⟩
theorem rinvLn2_any (w : World) : Calls Tryz.prog 148 #[] w fun e w' => e = .returned (.float .f64 4609176140021203710) ∧ w = w' := by
 go_enter Tryz.func148, Tryz.ntmps148
 go_wp2_with (go_at_call 147; refine (rbits_any _ _).mono ?_; rintro e w' ⟨rfl, rfl⟩)
 go_ret
 exact ⟨rfl, rfl⟩
theorem rlnHi_any (w : World) : Calls Tryz.prog 149 #[] w fun e w' => e = .returned (.float .f64 4604418534312771584) ∧ w = w' := by
 go_enter Tryz.func149, Tryz.ntmps149
 go_wp2_with (go_at_call 147; refine (rbits_any _ _).mono ?_; rintro e w' ⟨rfl, rfl⟩)
 go_ret
 exact ⟨rfl, rfl⟩
theorem rlnLo_any (w : World) : Calls Tryz.prog 150 #[] w fun e w' => e = .returned (.float .f64 4455313330490472685) ∧ w = w' := by
 go_enter Tryz.func150, Tryz.ntmps150
 go_wp2_with (go_at_call 147; refine (rbits_any _ _).mono ?_; rintro e w' ⟨rfl, rfl⟩)
 go_ret
 exact ⟨rfl, rfl⟩
def SerRel (r : Nat) (w : World) (v5 v6 : Value) (wr : World) : Prop :=
 ∃ (j s m : Nat), j ≤ 14 ∧ v5 = .float .f64 s ∧ cn s = expSer r j ∧ v6 = .int .i64 (14 - (j : Int)) ∧ wr = w.drewN m
theorem exp_any (x : Nat) (w : World) : Calls Tryz.prog 84 #[.float .f64 x] w (FRet (expS (cn x)) w) := by
 cases hx : isN x
 case true =>
  have hs : expS (cn x) = nanc := by unfold expS; rw [isN_cn, if_pos hx]
  rw [hs]
  have HC := qh (cn_of_N hx)
  clear hs
  go_enter Tryz.func84, Tryz.ntmps84
  go_wp2_with (first | (go_at_call 75; refine (isnan_any _ _).mono ?_; rintro e w' ⟨rfl, rfl⟩) | fail)
  go_ret
  exact ⟨_, 0, rfl, HC.out, rfl⟩
 case false =>
 cases h1 : (ford x cTop == some .gt)
 case true =>
  have hs : expS (cn x) = pinf := by unfold expS; rw [isN_cn, hx, ford_cn1, h1, if_neg (by simp), if_pos rfl]
  rw [hs]
  have h1' : (FloatKind.f64.format.order x 4649454530587146735 == some .gt) = true := h1
  clear hs h1
  go_enter Tryz.func84, Tryz.ntmps84
  go_wp2_with (first | (go_at_call 75; refine (isnan_any _ _).mono ?_; rintro e w' ⟨rfl, rfl⟩) | (go_at_call 113; refine (expTop_any _).mono ?_; rintro e w' ⟨rfl, rfl⟩) | (go_at_call 110; refine (inf_up _).mono ?_; rintro e w' ⟨rfl, rfl⟩))
  go_ret
  exact ⟨_, 0, rfl, cn_pinf, rfl⟩
 case false =>
 cases h2 : (ford x cLow == some .lt)
 case true =>
  have hs : expS (cn x) = 0 := by unfold expS; rw [isN_cn, hx, ford_cn1, ford_cn1, h1, h2, if_neg (by simp), if_neg (by simp), if_pos rfl]
  rw [hs]
  have h1' : (FloatKind.f64.format.order x 4649454530587146735 == some .gt) = false := h1
  have h2' : (FloatKind.f64.format.order x 13873137513782915154 == some .lt) = true := h2
  clear hs h1 h2
  go_enter Tryz.func84, Tryz.ntmps84
  go_wp2_with (first | (go_at_call 75; refine (isnan_any _ _).mono ?_; rintro e w' ⟨rfl, rfl⟩) | (go_at_call 113; refine (expTop_any _).mono ?_; rintro e w' ⟨rfl, rfl⟩) | (go_at_call 114; refine (expLow_any _).mono ?_; rintro e w' ⟨rfl, rfl⟩))
  go_ret
  exact ⟨_, 0, rfl, cn_zero, rfl⟩
 case false =>
  have hs : expS (cn x) = expW (cn x) := by unfold expS; rw [isN_cn, hx, ford_cn1, ford_cn1, h1, h2, if_neg (by simp), if_neg (by simp), if_neg (by simp)]
  rw [hs]
  have hc := cn_of_notN hx
  obtain ⟨hf, x1, x2⟩ := exp_dom hx h1 h2
  rw [← hc] at hf x1 x2
  have HF := qh hf
  have X1 := qh x1
  have X2 := qh x2
  obtain ⟨_, k1, k2, fr, r1, r2⟩ := exp_left hf x1 x2
  obtain ⟨E, low, hsw, hl, e1, e2⟩ := ser_word fr r1 r2
  have HSW := qh hsw
  have HW : Hid (expW (cn x) = scW (4503599627370496 + low) ((E : Int) + flI (expB (cn x)))) := qh (by
   unfold expW
   rw [hsw, show (E * 4503599627370496 + low) % 4503599627370496 = low by omega, show (E * 4503599627370496 + low) / 4503599627370496 = E by omega])
  have HL := qh hl
  have h1' : (FloatKind.f64.format.order x 4649454530587146735 == some .gt) = false := h1
  have h2' : (FloatKind.f64.format.order x 13873137513782915154 == some .lt) = false := h2
  obtain ⟨κ, hκ⟩ : ∃ κ, κ = flI (expB (cn x)) := ⟨_, rfl⟩
  rw [← hκ] at k1 k2 HW
  have HK := qh hκ
  clear hs hc hf x1 x2 fr r1 r2 hsw hl h1 h2 hκ
  go_enter Tryz.func84, Tryz.ntmps84
  go_wp2_with (first | (go_at_call 75; refine (isnan_any _ _).mono ?_; rintro e w' ⟨rfl, rfl⟩) | (go_at_call 113; refine (expTop_any _).mono ?_; rintro e w' ⟨rfl, rfl⟩) | (go_at_call 114; refine (expLow_any _).mono ?_; rintro e w' ⟨rfl, rfl⟩) | (go_at_call 115; refine (invLn2_any _).mono ?_; rintro e w' ⟨rfl, rfl⟩) | (go_at_call 116; refine (lnHi_any _).mono ?_; rintro e w' ⟨rfl, rfl⟩) | (go_at_call 117; refine (lnLo_any _).mono ?_; rintro e w' ⟨rfl, rfl⟩)  | (go_at_call 112; refine (floor_any _ _).mono ?_; rintro e w' ⟨r2, n2, rfl, hr2, rfl⟩; have hcv := fun w' => run_convert_float_int (P := Tryz.prog) w' 32 3 .f64 .i64 r2 _ (by kernel_rfl) Tryz.underlying3 (expKf_conv HF.out X1.out X2.out (hr2.trans (congrArg ffloor HB.out))); rw [← HK.out] at hcv; have HR2 : Hid (cn r2 = expKf (cn x)) := qh (hr2.trans (congrArg ffloor HB.out)); clear hr2)  | (refine wpList_fop .add _ _ _ _ _ _ rfl rfl rfl ?_; intro rb nb hb; have HB : Hid (cn rb = expB (cn x)) := qh (by rw [hb]; first | exact congrArg (fun z => fadd z cH5) (HM1.out) | fail); clear hb)  | (refine wpList_fop .mul _ _ _ _ x 4609176140021203710 rfl rfl rfl ?_; intro rm nm hm; have HM1 : Hid (cn rm = fmul (cn x) cL) := qh hm; clear hm)  | (refine wpList_fop .mul _ _ _ _ _ 4604418534312771584 rfl rfl rfl ?_; intro rh nh hh; have HH : Hid (cn rh = fmul (expKf (cn x)) cHi) := qh (by rw [hh, HR2.out]; rfl); clear hh)  | (refine wpList_fop .mul _ _ _ _ _ 4455313330490472685 rfl rfl rfl ?_; intro ro no ho; have HO : Hid (cn ro = fmul (expKf (cn x)) cLo) := qh (by rw [ho, HR2.out]; rfl); clear ho)  | (refine wpList_fop .sub _ _ _ _ x _ rfl rfl rfl ?_; intro rd nd hd; have HD : Hid (cn rd = fsub (cn x) (fmul (expKf (cn x)) cHi)) := qh (by rw [hd, HH.out]; rfl); clear hd)  | (refine wpList_fop .sub _ _ _ _ _ _ rfl rfl rfl ?_; intro rr nr hr; have HR : Hid (cn rr = expR (cn x)) := qh (by rw [hr, HD.out, HO.out]; rfl); clear hr))
  go_loopw [5, 6] (SerRel (expR (cn x)) w) (fun _ v _ => (intOf v).toNat)
  case atStart => exact ⟨0, _, _, by omega, rfl, by show cn w1 = w1; decide +kernel, rfl, by first | rfl | (simp only [World.drewN_drewN]; rfl)⟩
  case round =>
   obtain ⟨j, s, m, hj, rfl, hs, rfl, rfl⟩ := hrel
   have HS := qh hs
   clear hs
   by_cases hlt : j < 14
   ·have d1 : decide ((1 : Int) ≤ 14 - (j : Int)) = true := decide_eq_true (by omega)
    have HWZ : Hid (cn (floatOfInt .f64 (14 - (j : Int))) = wz (14 - (j : Int))) := qh (by rw [wz_eq]; exact cn_wz (by omega))
    go_wp2_with (refine wpList_fop _ _ _ _ _ _ _ rfl rfl rfl ?_; intro r9 n9 hr9)
    go_roundw
    case rel =>
     refine ⟨j + 1, _, _, by omega, rfl, ?_, by rw [show (14 : Int) - ((j + 1 : Nat) : Int) = 14 - (j : Int) - 1 by omega], by first | rfl | (simp only [World.drewN_drewN]; rfl)⟩
     rw [expSer]
     simp only [fop_add, fop_mul, fop_quo, HR.out, HS.out, HWZ.out, *]
     rfl
    case measure => simp [intOf]; omega
   ·have d1 : decide ((1 : Int) ≤ 14 - (j : Int)) = false := decide_eq_false (by omega)
    have hj14 : j = 14 := by omega
    subst hj14
    have hS : s = E * 4503599627370496 + low := eq_of_cn (by rw [HS.out, HSW.out]) (isF_notN (isF_small (by have := HL.out; omega)))
    have HS2 := qh hS
    clear hS hlt hj
    go_wp2_with (go_at_call 118; refine (scaled_any _ E low κ _ HS2.out HL.out (by omega) (by omega) (by omega) (by omega)).mono ?_; rintro e w' ⟨rfl, rfl⟩)
    go_ret
    exact ⟨_, _, rfl, by rw [scW_notN, HW.out], by first | rfl | (simp only [World.drewN_drewN]; rfl)⟩
theorem refexp_any (x : Nat) (w : World) : Calls Tryz.prog 134 #[.float .f64 x] w (FRet (expS (cn x)) w) := by
 cases hx : isN x
 case true =>
  have hs : expS (cn x) = nanc := by unfold expS; rw [isN_cn, if_pos hx]
  rw [hs]
  have HC := qh (cn_of_N hx)
  clear hs
  go_enter Tryz.func134, Tryz.ntmps134
  go_wp2_with (first | (go_at_call 126; refine (bad_any _ _).mono ?_; rintro e w' ⟨rfl, rfl⟩) | (go_at_call 128; refine (refnan_any _).mono ?_; rintro e w' ⟨rfl, rfl⟩))
  go_ret
  exact ⟨_, 0, rfl, cn_nanc, rfl⟩
 case false =>
 cases h1 : (ford x cTop == some .gt)
 case true =>
  have hs : expS (cn x) = pinf := by unfold expS; rw [isN_cn, hx, ford_cn1, h1, if_neg (by simp), if_pos rfl]
  rw [hs]
  have h1' : (FloatKind.f64.format.order x 4649454530587146735 == some .gt) = true := h1
  clear hs h1
  go_enter Tryz.func134, Tryz.ntmps134
  go_wp2_with (first | (go_at_call 126; refine (bad_any _ _).mono ?_; rintro e w' ⟨rfl, rfl⟩) | (go_at_call 147; refine (rbits_any _ _).mono ?_; rintro e w' ⟨rfl, rfl⟩) | (go_at_call 146; refine (rinf_up _).mono ?_; rintro e w' ⟨rfl, rfl⟩))
  go_ret
  exact ⟨_, 0, rfl, cn_pinf, rfl⟩
 case false =>
 cases h2 : (ford x cLow == some .lt)
 case true =>
  have hs : expS (cn x) = 0 := by unfold expS; rw [isN_cn, hx, ford_cn1, ford_cn1, h1, h2, if_neg (by simp), if_neg (by simp), if_pos rfl]
  rw [hs]
  have h1' : (FloatKind.f64.format.order x 4649454530587146735 == some .gt) = false := h1
  have h2' : (FloatKind.f64.format.order x 13873137513782915154 == some .lt) = true := h2
  clear hs h1 h2
  go_enter Tryz.func134, Tryz.ntmps134
  go_wp2_with (first | (go_at_call 126; refine (bad_any _ _).mono ?_; rintro e w' ⟨rfl, rfl⟩) | (go_at_call 147; refine (rbits_any _ _).mono ?_; rintro e w' ⟨rfl, rfl⟩) | (go_at_call 147; refine (rbits_any _ _).mono ?_; rintro e w' ⟨rfl, rfl⟩))
  go_ret
  exact ⟨_, 0, rfl, cn_zero, rfl⟩
 case false =>
  have hs : expS (cn x) = expW (cn x) := by unfold expS; rw [isN_cn, hx, ford_cn1, ford_cn1, h1, h2, if_neg (by simp), if_neg (by simp), if_neg (by simp)]
  rw [hs]
  have hc := cn_of_notN hx
  obtain ⟨hf, x1, x2⟩ := exp_dom hx h1 h2
  rw [← hc] at hf x1 x2
  have HF := qh hf
  have X1 := qh x1
  have X2 := qh x2
  obtain ⟨_, k1, k2, fr, r1, r2⟩ := exp_left hf x1 x2
  obtain ⟨E, low, hsw, hl, e1, e2⟩ := ser_word fr r1 r2
  have HSW := qh hsw
  have HW : Hid (expW (cn x) = scW (4503599627370496 + low) ((E : Int) + flI (expB (cn x)))) := qh (by
   unfold expW
   rw [hsw, show (E * 4503599627370496 + low) % 4503599627370496 = low by omega, show (E * 4503599627370496 + low) / 4503599627370496 = E by omega])
  have HL := qh hl
  have h1' : (FloatKind.f64.format.order x 4649454530587146735 == some .gt) = false := h1
  have h2' : (FloatKind.f64.format.order x 13873137513782915154 == some .lt) = false := h2
  obtain ⟨κ, hκ⟩ : ∃ κ, κ = flI (expB (cn x)) := ⟨_, rfl⟩
  rw [← hκ] at k1 k2 HW
  have HK := qh hκ
  clear hs hc hf x1 x2 fr r1 r2 hsw hl h1 h2 hκ
  go_enter Tryz.func134, Tryz.ntmps134
  go_wp2_with (first | (go_at_call 126; refine (bad_any _ _).mono ?_; rintro e w' ⟨rfl, rfl⟩) | (go_at_call 147; refine (rbits_any _ _).mono ?_; rintro e w' ⟨rfl, rfl⟩) | (go_at_call 147; refine (rbits_any _ _).mono ?_; rintro e w' ⟨rfl, rfl⟩) | (go_at_call 148; refine (rinvLn2_any _).mono ?_; rintro e w' ⟨rfl, rfl⟩) | (go_at_call 149; refine (rlnHi_any _).mono ?_; rintro e w' ⟨rfl, rfl⟩) | (go_at_call 150; refine (rlnLo_any _).mono ?_; rintro e w' ⟨rfl, rfl⟩)  | (go_at_call 112; refine (floor_any _ _).mono ?_; rintro e w' ⟨r2, n2, rfl, hr2, rfl⟩; have hcv := fun w' => run_convert_float_int (P := Tryz.prog) w' 32 3 .f64 .i64 r2 _ (by kernel_rfl) Tryz.underlying3 (expKf_conv HF.out X1.out X2.out (hr2.trans (congrArg ffloor HB.out))); rw [← HK.out] at hcv; have HR2 : Hid (cn r2 = expKf (cn x)) := qh (hr2.trans (congrArg ffloor HB.out)); clear hr2)  | (refine wpList_fop .add _ _ _ _ _ _ rfl rfl rfl ?_; intro rb nb hb; have HB : Hid (cn rb = expB (cn x)) := qh (by rw [hb]; first | exact congrArg (fun z => fadd z cH5) (HM1.out) | fail); clear hb)  | (refine wpList_fop .mul _ _ _ _ x 4609176140021203710 rfl rfl rfl ?_; intro rm nm hm; have HM1 : Hid (cn rm = fmul (cn x) cL) := qh hm; clear hm)  | (refine wpList_fop .mul _ _ _ _ _ 4604418534312771584 rfl rfl rfl ?_; intro rh nh hh; have HH : Hid (cn rh = fmul (expKf (cn x)) cHi) := qh (by rw [hh, HR2.out]; rfl); clear hh)  | (refine wpList_fop .mul _ _ _ _ _ 4455313330490472685 rfl rfl rfl ?_; intro ro no ho; have HO : Hid (cn ro = fmul (expKf (cn x)) cLo) := qh (by rw [ho, HR2.out]; rfl); clear ho)  | (refine wpList_fop .sub _ _ _ _ x _ rfl rfl rfl ?_; intro rd nd hd; have HD : Hid (cn rd = fsub (cn x) (fmul (expKf (cn x)) cHi)) := qh (by rw [hd, HH.out]; rfl); clear hd)  | (refine wpList_fop .sub _ _ _ _ _ _ rfl rfl rfl ?_; intro rr nr hr; have HR : Hid (cn rr = expR (cn x)) := qh (by rw [hr, HD.out, HO.out]; rfl); clear hr))
  go_loopw [5, 6] (SerRel (expR (cn x)) w) (fun _ v _ => (intOf v).toNat)
  case atStart => exact ⟨0, _, _, by omega, rfl, by show cn w1 = w1; decide +kernel, rfl, by first | rfl | (simp only [World.drewN_drewN]; rfl)⟩
  case round =>
   obtain ⟨j, s, m, hj, rfl, hs, rfl, rfl⟩ := hrel
   have HS := qh hs
   clear hs
   by_cases hlt : j < 14
   ·have d1 : decide ((1 : Int) ≤ 14 - (j : Int)) = true := decide_eq_true (by omega)
    have HWZ : Hid (cn (floatOfInt .f64 (14 - (j : Int))) = wz (14 - (j : Int))) := qh (by rw [wz_eq]; exact cn_wz (by omega))
    go_wp2_with (refine wpList_fop _ _ _ _ _ _ _ rfl rfl rfl ?_; intro r9 n9 hr9)
    go_roundw
    case rel =>
     refine ⟨j + 1, _, _, by omega, rfl, ?_, by rw [show (14 : Int) - ((j + 1 : Nat) : Int) = 14 - (j : Int) - 1 by omega], by first | rfl | (simp only [World.drewN_drewN]; rfl)⟩
     rw [expSer]
     simp only [fop_add, fop_mul, fop_quo, HR.out, HS.out, HWZ.out, *]
     rfl
    case measure => simp [intOf]; omega
   ·have d1 : decide ((1 : Int) ≤ 14 - (j : Int)) = false := decide_eq_false (by omega)
    have hj14 : j = 14 := by omega
    subst hj14
    have hS : s = E * 4503599627370496 + low := eq_of_cn (by rw [HS.out, HSW.out]) (isF_notN (isF_small (by have := HL.out; omega)))
    have HS2 := qh hS
    clear hS hlt hj
    go_wp2_with (go_at_call 151; refine (scale_any _ E low κ _ HS2.out HL.out (by omega) (by omega) (by omega) (by omega)).mono ?_; rintro e w' ⟨rz, nz, rfl, hz, rfl⟩; have HZ := qh hz; clear hz)
    go_ret
    exact ⟨_, _, rfl, by rw [HZ.out, HW.out], by first | rfl | (simp only [World.drewN_drewN]; rfl)⟩
end Go.Proofs.YtmmfjknnbkcniaaGreatDoor
namespace Go.Proofs.YtmmfjknnbkcniaaGreatDoor
open Go.Fl Go.Rel Go.RowKit
set_option linter.unusedSimpArgs false
set_option linter.unusedVariables false
def PartsR (x : Nat) (w : World) (e : Ending) (w' : World) : Prop :=
 ∃ (m : Nat) (k : Int) (r n : Nat), LP x m k ∧ -1100 ≤ k ∧ k ≤ 1100 ∧ e = .returned (.tuple #[.float .f64 (wz k), .float .f64 r]) ∧ cn r = lnSer m ∧ w' = w.drewN n
def SerPRel (z : Nat) (w : World) (v10 v11 : Value) (wr : World) : Prop :=
 ∃ (j p m : Nat), j ≤ 12 ∧ v10 = .float .f64 p ∧ cn p = serP z j ∧ v11 = .int .i64 (12 - (j : Int)) ∧ wr = w.drewN m
theorem or_1023 (low : Nat) (hl : low < 4503599627370496) : bits .or .u64 (low : Int) 4607182418800017408 = ((1023 * 4503599627370496 + low : Nat) : Int) := by
 have := u64_or_nat low 4607182418800017408 (by omega) (by omega)
 rw [Nat.or_comm, nat_join 52 4607182418800017408 low (by decide) (by omega)] at this
 exact this
theorem and_low' (S E low : Nat) (hS : S = E * 4503599627370496 + low) (hl : low < 4503599627370496) (hE : E ≤ 2046) : bits .and .u64 (S : Int) 4503599627370495 = (low : Int) := and_low S E low hS hl hE
theorem lnSer_of {m t a s p wv wp l : Nat} (h1 : cn t = fop .sub (cn m) (cn 4607182418800017408)) (h2 : cn a = fop .add (cn 4611686018427387904) (cn t)) (h3 : cn s = fop .quo (cn t) (cn a))
  (h4 : cn p = serP (fmul (lnS0 m) (lnS0 m)) 12) (h5 : cn wv = fop .mul (cn 4611686018427387904) (cn s)) (h6 : cn wp = fop .mul (cn wv) (cn p)) (h7 : cn l = fop .add (cn wv) (cn wp)) (hm : cn m = m) : cn l = lnSer m := by
 have c1 : cn 4607182418800017408 = w1 := by decide +kernel
 have c2 : cn 4611686018427387904 = cTwo := by decide +kernel
 have hs : cn s = lnS0 m := by rw [h3, h2, h1, c1, c2, hm]; rfl
 rw [h7, h6, h5, hs, h4, c2]; rfl
theorem cn_c1 : cn 4607182418800017408 = w1 := by decide +kernel
theorem parts_norm_lt (x : Nat) (w : World) (h0 : 0 < x) (hx : x < 9218868437227405312) (E low : Nat) (hYY : x = E * 4503599627370496 + low) (hl : low < 4503599627370496) (hE1 : 1 ≤ E) (hE2 : E ≤ 2046) (m0 : Nat) (hm0 : m0 = 1023 * 4503599627370496 + low)
  (hg : m0 < dbl cHalf) (k : Int) (hk : k = (E : Int) - 1023 - 0) (hlp : LP x m0 k) :
  Calls Tryz.prog 120 #[.float .f64 x] w (PartsR x w) := by
 have HLP := qh hlp
 have hlt : (FloatKind.f64.format.order x 4503599627370496 == some .lt) = false := by rw [show (FloatKind.f64.format.order x 4503599627370496 == some .lt) = decide (x < 4503599627370496) from flt_small (by omega) (by omega)]; exact decide_eq_false (by omega)
 have hb1 : (x : Int) / 4503599627370496 = (E : Int) := by omega
 have hb2 := and_low' x E low hYY hl hE2
 have hb3 := or_1023 low hl
 rw [← hm0] at hb3
 have hf0 := frombits_run (m0 : Int)
 rw [Int.toNat_natCast] at hf0
 have hby := bits_run x
 have hf1 := frombits_run 4503599627370496
 have m01 : m0 < 9218868437227405312 := by omega
 have HM0 := qh (cn_small m01)
 rw [dbl_half] at hg
 have hgo : (FloatKind.f64.format.order m0 4609047870845172685 == some .gt || FloatKind.f64.format.order m0 4609047870845172685 == some .eq) = false := by rw [show (FloatKind.f64.format.order m0 4609047870845172685 == some .gt || FloatKind.f64.format.order m0 4609047870845172685 == some .eq) = decide (4609047870845172685 ≤ m0) from fge_small (by omega) (by omega)]; exact decide_eq_false (by omega)
 have HTH : Hid (fmul (cn 4611686018427387904) (cn hB) = 4609047870845172685) := qh (by decide +kernel)
 have HK := qh hk
 have e1 : (1 : Int) ≤ (E : Int) := by omega
 have e2 : (E : Int) ≤ 2046 := by omega
 clear hlp hYY hl hE1 hE2 hm0 hg hk m01 h0 hx
 go_enter Tryz.func120, Tryz.ntmps120
 go_wp2_with (first | simp only [hf1] | simp only [hby] | simp only [hf0] | (go_at_call 142; refine (half_any _).mono ?_; rintro e w' ⟨rfl, rfl⟩) | (refine wpList_fop .mul _ _ _ _ 4611686018427387904 hB rfl rfl rfl ?_; intro rh nh hrh; have hrh2 : rh = 4609047870845172685 := eq_of_cn (c := 4609047870845172685) (by rw [hrh]; exact HTH.out) (by decide +kernel); subst hrh2; clear hrh) | (refine wpList_fop .sub _ _ _ _ m0 4607182418800017408 rfl rfl rfl ?_; intro rt nt ht; have HT := qh ht; clear ht) | (refine wpList_fop .add _ _ _ _ 4611686018427387904 rt rfl rfl rfl ?_; intro ra na ha; have HA := qh ha; clear ha) | (refine wpList_fop .quo _ _ _ _ rt ra rfl rfl rfl ?_; intro rs ns hs; have HSS := qh hs; clear hs) | (refine wpList_fop .mul _ _ _ _ rs rs rfl rfl rfl ?_; intro rz nz hz; have HZ := qh hz; clear hz))
 have HZ2 : Hid (cn rz = fmul (lnS0 m0) (lnS0 m0)) := qh (by
  have c1 : cn 4607182418800017408 = w1 := by decide +kernel
  have c2 : cn 4611686018427387904 = cTwo := by decide +kernel
  have hs : cn rs = lnS0 m0 := by rw [HSS.out, HA.out, HT.out, c1, c2, HM0.out]; rfl
  rw [HZ.out, hs]; rfl)
 go_loopw [10, 11] (SerPRel (cn rz) w) (fun _ v _ => (intOf v).toNat)
 case atStart => exact ⟨0, _, _, by omega, rfl, cn_zero, rfl, by first | rfl | (simp only [World.drewN_drewN]; rfl)⟩
 case round =>
  obtain ⟨j, p, m, hj, rfl, hp, rfl, rfl⟩ := hrel
  have HP := qh hp
  clear hp
  by_cases hlt2 : j < 12
  ·have d1 : decide ((1 : Int) ≤ 12 - (j : Int)) = true := decide_eq_true (by omega)
   have HWZ : Hid (cn (floatOfInt .f64 (2 * (12 - (j : Int)) + 1)) = wz (2 * (12 - (j : Int)) + 1)) := qh (by rw [wz_eq]; exact cn_wz (by omega))
   go_wp2_with (refine wpList_fop _ _ _ _ _ _ _ rfl rfl rfl ?_; intro r9 n9 hr9)
   go_roundw
   case rel =>
    refine ⟨j + 1, _, _, by omega, rfl, ?_, by rw [show (12 : Int) - ((j + 1 : Nat) : Int) = 12 - (j : Int) - 1 by omega], by first | rfl | (simp only [World.drewN_drewN]; rfl)⟩
    rw [serP]
    simp only [fop_add, fop_mul, fop_quo, HP.out, HWZ.out, cn_c1, *]
   case measure => simp [intOf]; omega
  ·have d1 : decide ((1 : Int) ≤ 12 - (j : Int)) = false := decide_eq_false (by omega)
   have hj12 : j = 12 := by omega
   subst hj12
   clear hlt2 hj
   go_wp2_with (first | (refine wpList_fop .mul _ _ _ _ 4611686018427387904 rs rfl rfl rfl ?_; intro rw nw hw; have HW := qh hw; clear hw) | (refine wpList_fop .mul _ _ _ _ rw p rfl rfl rfl ?_; intro rwp nwp hwp; have HWP := qh hwp; clear hwp) | (refine wpList_fop .add _ _ _ _ rw rwp rfl rfl rfl ?_; intro rl nl hl; have HL := qh hl; clear hl))
   go_ret2
   exact ⟨m0, k, rl, _, HLP.out, by have := HK.out; omega, by have := HK.out; omega, by rw [show k = (E : Int) - 1023 from by have := HK.out; omega, ← wz_eq]; rfl, lnSer_of HT.out HA.out HSS.out (by rw [HP.out, HZ2.out]) HW.out HWP.out HL.out HM0.out, by first | rfl | (simp only [World.drewN_drewN]; rfl)⟩
theorem parts_norm_ge (x : Nat) (w : World) (h0 : 0 < x) (hx : x < 9218868437227405312) (E low : Nat) (hYY : x = E * 4503599627370496 + low) (hl : low < 4503599627370496) (hE1 : 1 ≤ E) (hE2 : E ≤ 2046) (m0 : Nat) (hm0 : m0 = 1023 * 4503599627370496 + low)
  (hg : dbl cHalf ≤ m0) (k : Int) (hk : k = (E : Int) - 1023 - 0 + 1) (hlp : LP x (hlf m0) k) :
  Calls Tryz.prog 120 #[.float .f64 x] w (PartsR x w) := by
 have HLP := qh hlp
 have hlt : (FloatKind.f64.format.order x 4503599627370496 == some .lt) = false := by rw [show (FloatKind.f64.format.order x 4503599627370496 == some .lt) = decide (x < 4503599627370496) from flt_small (by omega) (by omega)]; exact decide_eq_false (by omega)
 have hb1 : (x : Int) / 4503599627370496 = (E : Int) := by omega
 have hb2 := and_low' x E low hYY hl hE2
 have hb3 := or_1023 low hl
 rw [← hm0] at hb3
 have hf0 := frombits_run (m0 : Int)
 rw [Int.toNat_natCast] at hf0
 have hby := bits_run x
 have hf1 := frombits_run 4503599627370496
 have m01 : m0 < 9218868437227405312 := by omega
 have HM0 := qh (cn_small m01)
 rw [dbl_half] at hg
 have hgo : (FloatKind.f64.format.order m0 4609047870845172685 == some .gt || FloatKind.f64.format.order m0 4609047870845172685 == some .eq) = true := by rw [show (FloatKind.f64.format.order m0 4609047870845172685 == some .gt || FloatKind.f64.format.order m0 4609047870845172685 == some .eq) = decide (4609047870845172685 ≤ m0) from fge_small (by omega) (by omega)]; exact decide_eq_true (by omega)
 have HTH : Hid (fmul (cn 4611686018427387904) (cn hB) = 4609047870845172685) := qh (by decide +kernel)
 have HD : Hid (fdiv m0 cTwo = hlf m0) := qh (fdiv_two (by omega) m01)
 obtain ⟨m1, hm1⟩ : ∃ m1, m1 = hlf m0 := ⟨_, rfl⟩
 have m11 : m1 < 9218868437227405312 := by rw [hm1]; unfold hlf; omega
 rw [← hm1] at HD HLP
 have HM1 := qh (cn_small m11)
 have HN1 := qh (isF_notN (isF_small m11))
 have HK := qh hk
 have e1 : (1 : Int) ≤ (E : Int) := by omega
 have e2 : (E : Int) ≤ 2046 := by omega
 clear hlp hYY hl hE1 hE2 hm0 hg hk m01 h0 hx hm1 m11
 go_enter Tryz.func120, Tryz.ntmps120
 go_wp2_with (first | simp only [hf1] | simp only [hby] | simp only [hf0] | (go_at_call 142; refine (half_any _).mono ?_; rintro e w' ⟨rfl, rfl⟩) | (refine wpList_fop .mul _ _ _ _ 4611686018427387904 hB rfl rfl rfl ?_; intro rh nh hrh; have hrh2 : rh = 4609047870845172685 := eq_of_cn (c := 4609047870845172685) (by rw [hrh]; exact HTH.out) (by decide +kernel); subst hrh2; clear hrh) | (refine wpList_fop .quo _ _ _ _ m0 4611686018427387904 rfl rfl rfl ?_; intro rq nq hrq; have hrq2 : m1 = rq := (eq_of_cn (c := m1) (by rw [hrq, HM0.out]; exact (congrArg (fdiv m0) (show cn 4611686018427387904 = cTwo by decide +kernel)).trans HD.out) HN1.out).symm; subst hrq2; clear hrq) | (refine wpList_fop .sub _ _ _ _ m1 4607182418800017408 rfl rfl rfl ?_; intro rt nt ht; have HT := qh ht; clear ht) | (refine wpList_fop .add _ _ _ _ 4611686018427387904 rt rfl rfl rfl ?_; intro ra na ha; have HA := qh ha; clear ha) | (refine wpList_fop .quo _ _ _ _ rt ra rfl rfl rfl ?_; intro rs ns hs; have HSS := qh hs; clear hs) | (refine wpList_fop .mul _ _ _ _ rs rs rfl rfl rfl ?_; intro rz nz hz; have HZ := qh hz; clear hz))
 have HZ2 : Hid (cn rz = fmul (lnS0 m1) (lnS0 m1)) := qh (by
  have c1 : cn 4607182418800017408 = w1 := by decide +kernel
  have c2 : cn 4611686018427387904 = cTwo := by decide +kernel
  have hs : cn rs = lnS0 m1 := by rw [HSS.out, HA.out, HT.out, c1, c2, HM1.out]; rfl
  rw [HZ.out, hs]; rfl)
 go_loopw [10, 11] (SerPRel (cn rz) w) (fun _ v _ => (intOf v).toNat)
 case atStart => exact ⟨0, _, _, by omega, rfl, cn_zero, rfl, by first | rfl | (simp only [World.drewN_drewN]; rfl)⟩
 case round =>
  obtain ⟨j, p, m, hj, rfl, hp, rfl, rfl⟩ := hrel
  have HP := qh hp
  clear hp
  by_cases hlt2 : j < 12
  ·have d1 : decide ((1 : Int) ≤ 12 - (j : Int)) = true := decide_eq_true (by omega)
   have HWZ : Hid (cn (floatOfInt .f64 (2 * (12 - (j : Int)) + 1)) = wz (2 * (12 - (j : Int)) + 1)) := qh (by rw [wz_eq]; exact cn_wz (by omega))
   go_wp2_with (refine wpList_fop _ _ _ _ _ _ _ rfl rfl rfl ?_; intro r9 n9 hr9)
   go_roundw
   case rel =>
    refine ⟨j + 1, _, _, by omega, rfl, ?_, by rw [show (12 : Int) - ((j + 1 : Nat) : Int) = 12 - (j : Int) - 1 by omega], by first | rfl | (simp only [World.drewN_drewN]; rfl)⟩
    rw [serP]
    simp only [fop_add, fop_mul, fop_quo, HP.out, HWZ.out, cn_c1, *]
   case measure => simp [intOf]; omega
  ·have d1 : decide ((1 : Int) ≤ 12 - (j : Int)) = false := decide_eq_false (by omega)
   have hj12 : j = 12 := by omega
   subst hj12
   clear hlt2 hj
   go_wp2_with (first | (refine wpList_fop .mul _ _ _ _ 4611686018427387904 rs rfl rfl rfl ?_; intro rw nw hw; have HW := qh hw; clear hw) | (refine wpList_fop .mul _ _ _ _ rw p rfl rfl rfl ?_; intro rwp nwp hwp; have HWP := qh hwp; clear hwp) | (refine wpList_fop .add _ _ _ _ rw rwp rfl rfl rfl ?_; intro rl nl hl; have HL := qh hl; clear hl))
   go_ret2
   exact ⟨m1, k, rl, _, HLP.out, by have := HK.out; omega, by have := HK.out; omega, by rw [show k = (E : Int) - 1023 + 1 from by have := HK.out; omega, ← wz_eq]; rfl, lnSer_of HT.out HA.out HSS.out (by rw [HP.out, HZ2.out]) HW.out HWP.out HL.out HM1.out, by first | rfl | (simp only [World.drewN_drewN]; rfl)⟩
end Go.Proofs.YtmmfjknnbkcniaaGreatDoor
