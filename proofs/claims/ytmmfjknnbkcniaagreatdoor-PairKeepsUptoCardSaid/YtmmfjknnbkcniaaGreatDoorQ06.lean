/- Exp on both sides. -/
import Derived.Test.YtmmfjknnbkcniaaGreatDoorQ03
import Derived.Test.YtmmfjknnbkcniaaGreatDoorQ04
namespace Go.Proofs.YtmmfjknnbkcniaaGreatDoor
open Go.Fl Go.Rel Go.RowKit
set_option linter.unusedSimpArgs false
set_option linter.unusedVariables false

theorem expTop_any (w : World) : Calls Tryz.prog 113 #[] w fun e w' => e = .returned (.float .f64 4649454530587146735) ∧ w = w' := by
  have hr := frombits_run 4649454530587146735 w
  go_enter Tryz.func113, Tryz.ntmps113
  go_wp2_with (simp only [hr])
  go_ret
  exact ⟨rfl, rfl⟩

theorem expLow_any (w : World) : Calls Tryz.prog 114 #[] w fun e w' => e = .returned (.float .f64 13873137513782915154) ∧ w = w' := by
  have hr := frombits_run 13873137513782915154 w
  go_enter Tryz.func114, Tryz.ntmps114
  go_wp2_with (simp only [hr])
  go_ret
  exact ⟨rfl, rfl⟩

theorem invLn2_any (w : World) : Calls Tryz.prog 115 #[] w fun e w' => e = .returned (.float .f64 4609176140021203710) ∧ w = w' := by
  have hr := frombits_run 4609176140021203710 w
  go_enter Tryz.func115, Tryz.ntmps115
  go_wp2_with (simp only [hr])
  go_ret
  exact ⟨rfl, rfl⟩

theorem lnHi_any (w : World) : Calls Tryz.prog 116 #[] w fun e w' => e = .returned (.float .f64 4604418534312771584) ∧ w = w' := by
  have hr := frombits_run 4604418534312771584 w
  go_enter Tryz.func116, Tryz.ntmps116
  go_wp2_with (simp only [hr])
  go_ret
  exact ⟨rfl, rfl⟩

theorem lnLo_any (w : World) : Calls Tryz.prog 117 #[] w fun e w' => e = .returned (.float .f64 4455313330490472685) ∧ w = w' := by
  have hr := frombits_run 4455313330490472685 w
  go_enter Tryz.func117, Tryz.ntmps117
  go_wp2_with (simp only [hr])
  go_ret
  exact ⟨rfl, rfl⟩

/-- How far the series is. -/
def SerRel (r : Nat) (w : World) (v5 v6 : Value) (wr : World) : Prop :=
  ∃ (j s m : Nat), j ≤ 14 ∧ v5 = .float .f64 s ∧ cn s = expSer r j ∧ v6 = .int .i64 (14 - (j : Int)) ∧ wr = w.drewN m

set_option maxHeartbeats 4000000 in
set_option maxRecDepth 100000 in
theorem exp_any (x : Nat) (w : World) : Calls Tryz.prog 84 #[.float .f64 x] w (FRet (expS (cn x)) w) := by
  cases hx : isN x
  case true =>
    have hs : expS (cn x) = nanc := by unfold expS; rw [isN_cn, if_pos hx]
    rw [hs]
    have HC := Lib.hid (cn_of_N hx)
    clear hs
    go_enter Tryz.func84, Tryz.ntmps84
    go_wp2_with (first | (go_at_call 75; refine (isnan_any _ _).mono ?_; rintro e w' ⟨rfl, rfl⟩) | fail)
    go_ret
    exact ⟨_, 0, rfl, HC.out, rfl⟩
  case false =>
  cases h1 : (ford x cTop == some .gt)
  case true =>
    have hs : expS (cn x) = pinf := by unfold expS; rw [isN_cn, hx, ford_cn1, h1, if_neg (by simp), if_pos rfl]
    rw [hs]
    have h1' : (FloatKind.f64.format.order x 4649454530587146735 == some .gt) = true := h1
    clear hs h1
    go_enter Tryz.func84, Tryz.ntmps84
    go_wp2_with (first | (go_at_call 75; refine (isnan_any _ _).mono ?_; rintro e w' ⟨rfl, rfl⟩) | (go_at_call 113; refine (expTop_any _).mono ?_; rintro e w' ⟨rfl, rfl⟩) | (go_at_call 110; refine (inf_up _).mono ?_; rintro e w' ⟨rfl, rfl⟩))
    go_ret
    exact ⟨_, 0, rfl, cn_pinf, rfl⟩
  case false =>
  cases h2 : (ford x cLow == some .lt)
  case true =>
    have hs : expS (cn x) = 0 := by unfold expS; rw [isN_cn, hx, ford_cn1, ford_cn1, h1, h2, if_neg (by simp), if_neg (by simp), if_pos rfl]
    rw [hs]
    have h1' : (FloatKind.f64.format.order x 4649454530587146735 == some .gt) = false := h1
    have h2' : (FloatKind.f64.format.order x 13873137513782915154 == some .lt) = true := h2
    clear hs h1 h2
    go_enter Tryz.func84, Tryz.ntmps84
    go_wp2_with (first | (go_at_call 75; refine (isnan_any _ _).mono ?_; rintro e w' ⟨rfl, rfl⟩) | (go_at_call 113; refine (expTop_any _).mono ?_; rintro e w' ⟨rfl, rfl⟩) | (go_at_call 114; refine (expLow_any _).mono ?_; rintro e w' ⟨rfl, rfl⟩))
    go_ret
    exact ⟨_, 0, rfl, cn_zero, rfl⟩
  case false =>
    have hs : expS (cn x) = expW (cn x) := by unfold expS; rw [isN_cn, hx, ford_cn1, ford_cn1, h1, h2, if_neg (by simp), if_neg (by simp), if_neg (by simp)]
    rw [hs]
    have hc := cn_of_notN hx
    obtain ⟨hf, x1, x2⟩ := exp_dom hx h1 h2
    rw [← hc] at hf x1 x2
    have HF := Lib.hid hf
    have X1 := Lib.hid x1
    have X2 := Lib.hid x2
    obtain ⟨_, k1, k2, fr, r1, r2⟩ := exp_left hf x1 x2
    obtain ⟨E, low, hsw, hl, e1, e2⟩ := ser_word fr r1 r2
    have HSW := Lib.hid hsw
    have HW : Hid (expW (cn x) = scW (4503599627370496 + low) ((E : Int) + flI (expB (cn x)))) := Lib.hid (by
      unfold expW
      rw [hsw, show (E * 4503599627370496 + low) % 4503599627370496 = low by omega, show (E * 4503599627370496 + low) / 4503599627370496 = E by omega])
    have HL := Lib.hid hl
    have h1' : (FloatKind.f64.format.order x 4649454530587146735 == some .gt) = false := h1
    have h2' : (FloatKind.f64.format.order x 13873137513782915154 == some .lt) = false := h2
    obtain ⟨κ, hκ⟩ : ∃ κ, κ = flI (expB (cn x)) := ⟨_, rfl⟩
    rw [← hκ] at k1 k2 HW
    have HK := Lib.hid hκ
    clear hs hc hf x1 x2 fr r1 r2 hsw hl h1 h2 hκ
    go_enter Tryz.func84, Tryz.ntmps84
    go_wp2_with (first | (go_at_call 75; refine (isnan_any _ _).mono ?_; rintro e w' ⟨rfl, rfl⟩) | (go_at_call 113; refine (expTop_any _).mono ?_; rintro e w' ⟨rfl, rfl⟩) | (go_at_call 114; refine (expLow_any _).mono ?_; rintro e w' ⟨rfl, rfl⟩) | (go_at_call 115; refine (invLn2_any _).mono ?_; rintro e w' ⟨rfl, rfl⟩) | (go_at_call 116; refine (lnHi_any _).mono ?_; rintro e w' ⟨rfl, rfl⟩) | (go_at_call 117; refine (lnLo_any _).mono ?_; rintro e w' ⟨rfl, rfl⟩)  | (go_at_call 112; refine (floor_any _ _).mono ?_; rintro e w' ⟨r2, n2, rfl, hr2, rfl⟩; have hcv := fun w' => run_convert_float_int (P := Tryz.prog) w' 32 3 .f64 .i64 r2 _ (by kernel_rfl) Tryz.underlying3 (expKf_conv HF.out X1.out X2.out (hr2.trans (congrArg ffloor HB.out))); rw [← HK.out] at hcv; have HR2 : Hid (cn r2 = expKf (cn x)) := Lib.hid (hr2.trans (congrArg ffloor HB.out)); clear hr2)  | (refine wpList_fop .add _ _ _ _ _ _ rfl rfl rfl ?_; intro rb nb hb; have HB : Hid (cn rb = expB (cn x)) := Lib.hid (by rw [hb]; first | exact congrArg (fun z => fadd z cH5) (HM1.out) | fail); clear hb)  | (refine wpList_fop .mul _ _ _ _ x 4609176140021203710 rfl rfl rfl ?_; intro rm nm hm; have HM1 : Hid (cn rm = fmul (cn x) cL) := Lib.hid hm; clear hm)  | (refine wpList_fop .mul _ _ _ _ _ 4604418534312771584 rfl rfl rfl ?_; intro rh nh hh; have HH : Hid (cn rh = fmul (expKf (cn x)) cHi) := Lib.hid (by rw [hh, HR2.out]; rfl); clear hh)  | (refine wpList_fop .mul _ _ _ _ _ 4455313330490472685 rfl rfl rfl ?_; intro ro no ho; have HO : Hid (cn ro = fmul (expKf (cn x)) cLo) := Lib.hid (by rw [ho, HR2.out]; rfl); clear ho)  | (refine wpList_fop .sub _ _ _ _ x _ rfl rfl rfl ?_; intro rd nd hd; have HD : Hid (cn rd = fsub (cn x) (fmul (expKf (cn x)) cHi)) := Lib.hid (by rw [hd, HH.out]; rfl); clear hd)  | (refine wpList_fop .sub _ _ _ _ _ _ rfl rfl rfl ?_; intro rr nr hr; have HR : Hid (cn rr = expR (cn x)) := Lib.hid (by rw [hr, HD.out, HO.out]; rfl); clear hr))
    go_loopw [5, 6] (SerRel (expR (cn x)) w) (fun _ v _ => (intOf v).toNat)
    case atStart => exact ⟨0, _, _, by omega, rfl, by show cn w1 = w1; decide +kernel, rfl, by first | rfl | (simp only [World.drewN_drewN]; rfl)⟩
    case round =>
      obtain ⟨j, s, m, hj, rfl, hs, rfl, rfl⟩ := hrel
      have HS := Lib.hid hs
      clear hs
      by_cases hlt : j < 14
      · have d1 : decide ((1 : Int) ≤ 14 - (j : Int)) = true := decide_eq_true (by omega)
        have HWZ : Hid (cn (floatOfInt .f64 (14 - (j : Int))) = wz (14 - (j : Int))) := Lib.hid (by rw [wz_eq]; exact cn_wz (by omega))
        go_wp2_with (refine wpList_fop _ _ _ _ _ _ _ rfl rfl rfl ?_; intro r9 n9 hr9)
        go_roundw
        case rel =>
          refine ⟨j + 1, _, _, by omega, rfl, ?_, by rw [show (14 : Int) - ((j + 1 : Nat) : Int) = 14 - (j : Int) - 1 by omega], by first | rfl | (simp only [World.drewN_drewN]; rfl)⟩
          rw [expSer]
          simp only [fop_add, fop_mul, fop_quo, HR.out, HS.out, HWZ.out, *]
          rfl
        case measure => simp [intOf]; omega
      · have d1 : decide ((1 : Int) ≤ 14 - (j : Int)) = false := decide_eq_false (by omega)
        have hj14 : j = 14 := by omega
        subst hj14
        have hS : s = E * 4503599627370496 + low := eq_of_cn (by rw [HS.out, HSW.out]) (isF_notN (isF_small (by have := HL.out; omega)))
        have HS2 := Lib.hid hS
        clear hS hlt hj
        go_wp2_with (go_at_call 118; refine (scaled_any _ E low κ _ HS2.out HL.out (by omega) (by omega) (by omega) (by omega)).mono ?_; rintro e w' ⟨rfl, rfl⟩)
        go_ret
        exact ⟨_, _, rfl, by rw [scW_notN, HW.out], by first | rfl | (simp only [World.drewN_drewN]; rfl)⟩

end Go.Proofs.YtmmfjknnbkcniaaGreatDoor
