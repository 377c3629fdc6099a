/- The parts of a subnormal number. -/
import Derived.Test.YtmmfjknnbkcniaaGreatDoorQ07
namespace Go.Proofs.YtmmfjknnbkcniaaGreatDoor
open Go.Fl Go.Rel Go.RowKit
set_option linter.unusedSimpArgs false
set_option linter.unusedVariables false

set_option maxHeartbeats 4000000 in
set_option maxRecDepth 100000 in
theorem parts_sub_lt (x : Nat) (w : World) (h0 : 0 < x) (hx : x < 9218868437227405312) (Y : Nat) (hmul : fmul x 4850376798678024192 = Y) (E low : Nat) (hYY : Y = E * 4503599627370496 + low) (hl : low < 4503599627370496) (hE1 : 1 ≤ E) (hE2 : E ≤ 2046) (hs : x < 4503599627370496) (m0 : Nat) (hm0 : m0 = 1023 * 4503599627370496 + low)
    (hg : m0 < dbl cHalf) (k : Int) (hk : k = (E : Int) - 1023 - 54) (hlp : LP x m0 k) :
    Calls Tryz.prog 120 #[.float .f64 x] w (PartsR x w) := by
  have HLP := Lib.hid hlp
  have hlt : (FloatKind.f64.format.order x 4503599627370496 == some .lt) = true := by rw [show (FloatKind.f64.format.order x 4503599627370496 == some .lt) = decide (x < 4503599627370496) from flt_small (by omega) (by omega)]; exact decide_eq_true hs
  have hb1 : (Y : Int) / 4503599627370496 = (E : Int) := by omega
  have hb2 := and_low' Y E low hYY hl hE2
  have hb3 := or_1023 low hl
  rw [← hm0] at hb3
  have hf0 := frombits_run (m0 : Int)
  rw [Int.toNat_natCast] at hf0
  have hby := bits_run Y
  have hf1 := frombits_run 4503599627370496
  have m01 : m0 < 9218868437227405312 := by omega
  have HM0 := Lib.hid (cn_small m01)
  rw [dbl_half] at hg
  have hgo : (FloatKind.f64.format.order m0 4609047870845172685 == some .gt || FloatKind.f64.format.order m0 4609047870845172685 == some .eq) = false := by rw [show (FloatKind.f64.format.order m0 4609047870845172685 == some .gt || FloatKind.f64.format.order m0 4609047870845172685 == some .eq) = decide (4609047870845172685 ≤ m0) from fge_small (by omega) (by omega)]; exact decide_eq_false (by omega)
  have HTH : Hid (fmul (cn 4611686018427387904) (cn hB) = 4609047870845172685) := Lib.hid (by decide +kernel)
  have HY : Hid (cn Y = Y) := Lib.hid (cn_small (by omega))
  have HNY : Hid (isN Y = false) := Lib.hid (isF_notN (isF_small (by omega)))
  have HX : Hid (cn x = x) := Lib.hid (cn_small hx)
  have HMUL := Lib.hid hmul
  have HK := Lib.hid hk
  have e1 : (1 : Int) ≤ (E : Int) := by omega
  have e2 : (E : Int) ≤ 2046 := by omega
  clear hlp hYY hl hE1 hE2 hm0 hg hk m01 h0 hx hmul hs
  go_enter Tryz.func120, Tryz.ntmps120
  go_wp2_with (first | simp only [hf1] | simp only [hby] | simp only [hf0] | (go_at_call 142; refine (half_any _).mono ?_; rintro e w' ⟨rfl, rfl⟩) | (refine wpList_fop .mul _ _ _ _ x 4850376798678024192 rfl rfl rfl ?_; intro ry ny hry; have hry2 : Y = ry := (eq_of_cn (c := Y) (by rw [hry, HX.out]; exact (congrArg (fmul x) (show cn 4850376798678024192 = 4850376798678024192 by decide +kernel)).trans HMUL.out) HNY.out).symm; subst hry2; clear hry) | (refine wpList_fop .mul _ _ _ _ 4611686018427387904 hB rfl rfl rfl ?_; intro rh nh hrh; have hrh2 : rh = 4609047870845172685 := eq_of_cn (c := 4609047870845172685) (by rw [hrh]; exact HTH.out) (by decide +kernel); subst hrh2; clear hrh) | (refine wpList_fop .sub _ _ _ _ m0 4607182418800017408 rfl rfl rfl ?_; intro rt nt ht; have HT := Lib.hid ht; clear ht) | (refine wpList_fop .add _ _ _ _ 4611686018427387904 rt rfl rfl rfl ?_; intro ra na ha; have HA := Lib.hid ha; clear ha) | (refine wpList_fop .quo _ _ _ _ rt ra rfl rfl rfl ?_; intro rs ns hs; have HSS := Lib.hid hs; clear hs) | (refine wpList_fop .mul _ _ _ _ rs rs rfl rfl rfl ?_; intro rz nz hz; have HZ := Lib.hid hz; clear hz))
  have HZ2 : Hid (cn rz = fmul (lnS0 m0) (lnS0 m0)) := Lib.hid (by
    have c1 : cn 4607182418800017408 = w1 := by decide +kernel
    have c2 : cn 4611686018427387904 = cTwo := by decide +kernel
    have hs : cn rs = lnS0 m0 := by rw [HSS.out, HA.out, HT.out, c1, c2, HM0.out]; rfl
    rw [HZ.out, hs]; rfl)
  go_loopw [10, 11] (SerPRel (cn rz) w) (fun _ v _ => (intOf v).toNat)
  case atStart => exact ⟨0, _, _, by omega, rfl, cn_zero, rfl, by first | rfl | (simp only [World.drewN_drewN]; rfl)⟩
  case round =>
    obtain ⟨j, p, m, hj, rfl, hp, rfl, rfl⟩ := hrel
    have HP := Lib.hid hp
    clear hp
    by_cases hlt2 : j < 12
    · have d1 : decide ((1 : Int) ≤ 12 - (j : Int)) = true := decide_eq_true (by omega)
      have HWZ : Hid (cn (floatOfInt .f64 (2 * (12 - (j : Int)) + 1)) = wz (2 * (12 - (j : Int)) + 1)) := Lib.hid (by rw [wz_eq]; exact cn_wz (by omega))
      go_wp2_with (refine wpList_fop _ _ _ _ _ _ _ rfl rfl rfl ?_; intro r9 n9 hr9)
      go_roundw
      case rel =>
        refine ⟨j + 1, _, _, by omega, rfl, ?_, by rw [show (12 : Int) - ((j + 1 : Nat) : Int) = 12 - (j : Int) - 1 by omega], by first | rfl | (simp only [World.drewN_drewN]; rfl)⟩
        rw [serP]
        simp only [fop_add, fop_mul, fop_quo, HP.out, HWZ.out, cn_c1, *]
      case measure => simp [intOf]; omega
    · have d1 : decide ((1 : Int) ≤ 12 - (j : Int)) = false := decide_eq_false (by omega)
      have hj12 : j = 12 := by omega
      subst hj12
      clear hlt2 hj
      go_wp2_with (first | (refine wpList_fop .mul _ _ _ _ 4611686018427387904 rs rfl rfl rfl ?_; intro rw nw hw; have HW := Lib.hid hw; clear hw) | (refine wpList_fop .mul _ _ _ _ rw p rfl rfl rfl ?_; intro rwp nwp hwp; have HWP := Lib.hid hwp; clear hwp) | (refine wpList_fop .add _ _ _ _ rw rwp rfl rfl rfl ?_; intro rl nl hl; have HL := Lib.hid hl; clear hl))
      go_ret2
      exact ⟨m0, k, rl, _, HLP.out, by have := HK.out; omega, by have := HK.out; omega, by rw [show k = -54 + ((E : Int) - 1023) from by have := HK.out; omega, ← wz_eq]; rfl, lnSer_of HT.out HA.out HSS.out (by rw [HP.out, HZ2.out]) HW.out HWP.out HL.out HM0.out, by first | rfl | (simp only [World.drewN_drewN]; rfl)⟩

set_option maxHeartbeats 4000000 in
set_option maxRecDepth 100000 in
theorem parts_sub_ge (x : Nat) (w : World) (h0 : 0 < x) (hx : x < 9218868437227405312) (Y : Nat) (hmul : fmul x 4850376798678024192 = Y) (E low : Nat) (hYY : Y = E * 4503599627370496 + low) (hl : low < 4503599627370496) (hE1 : 1 ≤ E) (hE2 : E ≤ 2046) (hs : x < 4503599627370496) (m0 : Nat) (hm0 : m0 = 1023 * 4503599627370496 + low)
    (hg : dbl cHalf ≤ m0) (k : Int) (hk : k = (E : Int) - 1023 - 54 + 1) (hlp : LP x (hlf m0) k) :
    Calls Tryz.prog 120 #[.float .f64 x] w (PartsR x w) := by
  have HLP := Lib.hid hlp
  have hlt : (FloatKind.f64.format.order x 4503599627370496 == some .lt) = true := by rw [show (FloatKind.f64.format.order x 4503599627370496 == some .lt) = decide (x < 4503599627370496) from flt_small (by omega) (by omega)]; exact decide_eq_true hs
  have hb1 : (Y : Int) / 4503599627370496 = (E : Int) := by omega
  have hb2 := and_low' Y E low hYY hl hE2
  have hb3 := or_1023 low hl
  rw [← hm0] at hb3
  have hf0 := frombits_run (m0 : Int)
  rw [Int.toNat_natCast] at hf0
  have hby := bits_run Y
  have hf1 := frombits_run 4503599627370496
  have m01 : m0 < 9218868437227405312 := by omega
  have HM0 := Lib.hid (cn_small m01)
  rw [dbl_half] at hg
  have hgo : (FloatKind.f64.format.order m0 4609047870845172685 == some .gt || FloatKind.f64.format.order m0 4609047870845172685 == some .eq) = true := by rw [show (FloatKind.f64.format.order m0 4609047870845172685 == some .gt || FloatKind.f64.format.order m0 4609047870845172685 == some .eq) = decide (4609047870845172685 ≤ m0) from fge_small (by omega) (by omega)]; exact decide_eq_true (by omega)
  have HTH : Hid (fmul (cn 4611686018427387904) (cn hB) = 4609047870845172685) := Lib.hid (by decide +kernel)
  have HD : Hid (fdiv m0 cTwo = hlf m0) := Lib.hid (fdiv_two (by omega) m01)
  obtain ⟨m1, hm1⟩ : ∃ m1, m1 = hlf m0 := ⟨_, rfl⟩
  have m11 : m1 < 9218868437227405312 := by rw [hm1]; unfold hlf; omega
  rw [← hm1] at HD HLP
  have HM1 := Lib.hid (cn_small m11)
  have HN1 := Lib.hid (isF_notN (isF_small m11))
  have HY : Hid (cn Y = Y) := Lib.hid (cn_small (by omega))
  have HNY : Hid (isN Y = false) := Lib.hid (isF_notN (isF_small (by omega)))
  have HX : Hid (cn x = x) := Lib.hid (cn_small hx)
  have HMUL := Lib.hid hmul
  have HK := Lib.hid hk
  have e1 : (1 : Int) ≤ (E : Int) := by omega
  have e2 : (E : Int) ≤ 2046 := by omega
  clear hlp hYY hl hE1 hE2 hm0 hg hk m01 h0 hx hm1 m11 hmul hs
  go_enter Tryz.func120, Tryz.ntmps120
  go_wp2_with (first | simp only [hf1] | simp only [hby] | simp only [hf0] | (go_at_call 142; refine (half_any _).mono ?_; rintro e w' ⟨rfl, rfl⟩) | (refine wpList_fop .mul _ _ _ _ x 4850376798678024192 rfl rfl rfl ?_; intro ry ny hry; have hry2 : Y = ry := (eq_of_cn (c := Y) (by rw [hry, HX.out]; exact (congrArg (fmul x) (show cn 4850376798678024192 = 4850376798678024192 by decide +kernel)).trans HMUL.out) HNY.out).symm; subst hry2; clear hry) | (refine wpList_fop .mul _ _ _ _ 4611686018427387904 hB rfl rfl rfl ?_; intro rh nh hrh; have hrh2 : rh = 4609047870845172685 := eq_of_cn (c := 4609047870845172685) (by rw [hrh]; exact HTH.out) (by decide +kernel); subst hrh2; clear hrh) | (refine wpList_fop .quo _ _ _ _ m0 4611686018427387904 rfl rfl rfl ?_; intro rq nq hrq; have hrq2 : m1 = rq := (eq_of_cn (c := m1) (by rw [hrq, HM0.out]; exact (congrArg (fdiv m0) (show cn 4611686018427387904 = cTwo by decide +kernel)).trans HD.out) HN1.out).symm; subst hrq2; clear hrq) | (refine wpList_fop .sub _ _ _ _ m1 4607182418800017408 rfl rfl rfl ?_; intro rt nt ht; have HT := Lib.hid ht; clear ht) | (refine wpList_fop .add _ _ _ _ 4611686018427387904 rt rfl rfl rfl ?_; intro ra na ha; have HA := Lib.hid ha; clear ha) | (refine wpList_fop .quo _ _ _ _ rt ra rfl rfl rfl ?_; intro rs ns hs; have HSS := Lib.hid hs; clear hs) | (refine wpList_fop .mul _ _ _ _ rs rs rfl rfl rfl ?_; intro rz nz hz; have HZ := Lib.hid hz; clear hz))
  have HZ2 : Hid (cn rz = fmul (lnS0 m1) (lnS0 m1)) := Lib.hid (by
    have c1 : cn 4607182418800017408 = w1 := by decide +kernel
    have c2 : cn 4611686018427387904 = cTwo := by decide +kernel
    have hs : cn rs = lnS0 m1 := by rw [HSS.out, HA.out, HT.out, c1, c2, HM1.out]; rfl
    rw [HZ.out, hs]; rfl)
  go_loopw [10, 11] (SerPRel (cn rz) w) (fun _ v _ => (intOf v).toNat)
  case atStart => exact ⟨0, _, _, by omega, rfl, cn_zero, rfl, by first | rfl | (simp only [World.drewN_drewN]; rfl)⟩
  case round =>
    obtain ⟨j, p, m, hj, rfl, hp, rfl, rfl⟩ := hrel
    have HP := Lib.hid hp
    clear hp
    by_cases hlt2 : j < 12
    · have d1 : decide ((1 : Int) ≤ 12 - (j : Int)) = true := decide_eq_true (by omega)
      have HWZ : Hid (cn (floatOfInt .f64 (2 * (12 - (j : Int)) + 1)) = wz (2 * (12 - (j : Int)) + 1)) := Lib.hid (by rw [wz_eq]; exact cn_wz (by omega))
      go_wp2_with (refine wpList_fop _ _ _ _ _ _ _ rfl rfl rfl ?_; intro r9 n9 hr9)
      go_roundw
      case rel =>
        refine ⟨j + 1, _, _, by omega, rfl, ?_, by rw [show (12 : Int) - ((j + 1 : Nat) : Int) = 12 - (j : Int) - 1 by omega], by first | rfl | (simp only [World.drewN_drewN]; rfl)⟩
        rw [serP]
        simp only [fop_add, fop_mul, fop_quo, HP.out, HWZ.out, cn_c1, *]
      case measure => simp [intOf]; omega
    · have d1 : decide ((1 : Int) ≤ 12 - (j : Int)) = false := decide_eq_false (by omega)
      have hj12 : j = 12 := by omega
      subst hj12
      clear hlt2 hj
      go_wp2_with (first | (refine wpList_fop .mul _ _ _ _ 4611686018427387904 rs rfl rfl rfl ?_; intro rw nw hw; have HW := Lib.hid hw; clear hw) | (refine wpList_fop .mul _ _ _ _ rw p rfl rfl rfl ?_; intro rwp nwp hwp; have HWP := Lib.hid hwp; clear hwp) | (refine wpList_fop .add _ _ _ _ rw rwp rfl rfl rfl ?_; intro rl nl hl; have HL := Lib.hid hl; clear hl))
      go_ret2
      exact ⟨m1, k, rl, _, HLP.out, by have := HK.out; omega, by have := HK.out; omega, by rw [show k = -54 + ((E : Int) - 1023) + 1 from by have := HK.out; omega, ← wz_eq]; rfl, lnSer_of HT.out HA.out HSS.out (by rw [HP.out, HZ2.out]) HW.out HWP.out HL.out HM1.out, by first | rfl | (simp only [World.drewN_drewN]; rfl)⟩

end Go.Proofs.YtmmfjknnbkcniaaGreatDoor
