/- Logarithms: their parts and series on both sides. -/
import Derived.Test.YtmmfjknnbkcniaaGreatDoorQ06
import Derived.Test.YtmmfjknnbkcniaaGreatDoorQ03
namespace Go.Proofs.YtmmfjknnbkcniaaGreatDoor
open Go.Fl Go.Rel Go.RowKit
set_option linter.unusedSimpArgs false
set_option linter.unusedVariables false

/-- A significand's series, its place. -/
def PartsR (x : Nat) (w : World) (e : Ending) (w' : World) : Prop :=
  ∃ (m : Nat) (k : Int) (r n : Nat), LP x m k ∧ -1100 ≤ k ∧ k ≤ 1100 ∧ e = .returned (.tuple #[.float .f64 (wz k), .float .f64 r]) ∧ cn r = lnSer m ∧ w' = w.drewN n

/-- How far the inner sum is. -/
def SerPRel (z : Nat) (w : World) (v10 v11 : Value) (wr : World) : Prop :=
  ∃ (j p m : Nat), j ≤ 12 ∧ v10 = .float .f64 p ∧ cn p = serP z j ∧ v11 = .int .i64 (12 - (j : Int)) ∧ wr = w.drewN m

theorem or_1023 (low : Nat) (hl : low < 4503599627370496) : bits .or .u64 (low : Int) 4607182418800017408 = ((1023 * 4503599627370496 + low : Nat) : Int) := by
  have := u64_or_nat low 4607182418800017408 (by omega) (by omega)
  rw [Nat.or_comm, nat_join 52 4607182418800017408 low (by decide) (by omega)] at this
  exact this
theorem and_low' (S E low : Nat) (hS : S = E * 4503599627370496 + low) (hl : low < 4503599627370496) (hE : E ≤ 2046) : bits .and .u64 (S : Int) 4503599627370495 = (low : Int) := and_low S E low hS hl hE

theorem lnSer_of {m t a s p wv wp l : Nat} (h1 : cn t = fop .sub (cn m) (cn 4607182418800017408)) (h2 : cn a = fop .add (cn 4611686018427387904) (cn t)) (h3 : cn s = fop .quo (cn t) (cn a))
    (h4 : cn p = serP (fmul (lnS0 m) (lnS0 m)) 12) (h5 : cn wv = fop .mul (cn 4611686018427387904) (cn s)) (h6 : cn wp = fop .mul (cn wv) (cn p)) (h7 : cn l = fop .add (cn wv) (cn wp)) (hm : cn m = m) : cn l = lnSer m := by
  have c1 : cn 4607182418800017408 = w1 := by decide +kernel
  have c2 : cn 4611686018427387904 = cTwo := by decide +kernel
  have hs : cn s = lnS0 m := by rw [h3, h2, h1, c1, c2, hm]; rfl
  rw [h7, h6, h5, hs, h4, c2]; rfl

/-- What stands behind the significand. -/
theorem cn_c1 : cn 4607182418800017408 = w1 := by decide +kernel

set_option maxHeartbeats 4000000 in
set_option maxRecDepth 100000 in
theorem parts_norm_lt (x : Nat) (w : World) (h0 : 0 < x) (hx : x < 9218868437227405312) (E low : Nat) (hYY : x = E * 4503599627370496 + low) (hl : low < 4503599627370496) (hE1 : 1 ≤ E) (hE2 : E ≤ 2046) (m0 : Nat) (hm0 : m0 = 1023 * 4503599627370496 + low)
    (hg : m0 < dbl cHalf) (k : Int) (hk : k = (E : Int) - 1023 - 0) (hlp : LP x m0 k) :
    Calls Tryz.prog 120 #[.float .f64 x] w (PartsR x w) := by
  have HLP := Lib.hid hlp
  have hlt : (FloatKind.f64.format.order x 4503599627370496 == some .lt) = false := by rw [show (FloatKind.f64.format.order x 4503599627370496 == some .lt) = decide (x < 4503599627370496) from flt_small (by omega) (by omega)]; exact decide_eq_false (by omega)
  have hb1 : (x : Int) / 4503599627370496 = (E : Int) := by omega
  have hb2 := and_low' x E low hYY hl hE2
  have hb3 := or_1023 low hl
  rw [← hm0] at hb3
  have hf0 := frombits_run (m0 : Int)
  rw [Int.toNat_natCast] at hf0
  have hby := bits_run x
  have hf1 := frombits_run 4503599627370496
  have m01 : m0 < 9218868437227405312 := by omega
  have HM0 := Lib.hid (cn_small m01)
  rw [dbl_half] at hg
  have hgo : (FloatKind.f64.format.order m0 4609047870845172685 == some .gt || FloatKind.f64.format.order m0 4609047870845172685 == some .eq) = false := by rw [show (FloatKind.f64.format.order m0 4609047870845172685 == some .gt || FloatKind.f64.format.order m0 4609047870845172685 == some .eq) = decide (4609047870845172685 ≤ m0) from fge_small (by omega) (by omega)]; exact decide_eq_false (by omega)
  have HTH : Hid (fmul (cn 4611686018427387904) (cn hB) = 4609047870845172685) := Lib.hid (by decide +kernel)
  have HK := Lib.hid hk
  have e1 : (1 : Int) ≤ (E : Int) := by omega
  have e2 : (E : Int) ≤ 2046 := by omega
  clear hlp hYY hl hE1 hE2 hm0 hg hk m01 h0 hx
  go_enter Tryz.func120, Tryz.ntmps120
  go_wp2_with (first | simp only [hf1] | simp only [hby] | simp only [hf0] | (go_at_call 142; refine (half_any _).mono ?_; rintro e w' ⟨rfl, rfl⟩) | (refine wpList_fop .mul _ _ _ _ 4611686018427387904 hB rfl rfl rfl ?_; intro rh nh hrh; have hrh2 : rh = 4609047870845172685 := eq_of_cn (c := 4609047870845172685) (by rw [hrh]; exact HTH.out) (by decide +kernel); subst hrh2; clear hrh) | (refine wpList_fop .sub _ _ _ _ m0 4607182418800017408 rfl rfl rfl ?_; intro rt nt ht; have HT := Lib.hid ht; clear ht) | (refine wpList_fop .add _ _ _ _ 4611686018427387904 rt rfl rfl rfl ?_; intro ra na ha; have HA := Lib.hid ha; clear ha) | (refine wpList_fop .quo _ _ _ _ rt ra rfl rfl rfl ?_; intro rs ns hs; have HSS := Lib.hid hs; clear hs) | (refine wpList_fop .mul _ _ _ _ rs rs rfl rfl rfl ?_; intro rz nz hz; have HZ := Lib.hid hz; clear hz))
  have HZ2 : Hid (cn rz = fmul (lnS0 m0) (lnS0 m0)) := Lib.hid (by
    have c1 : cn 4607182418800017408 = w1 := by decide +kernel
    have c2 : cn 4611686018427387904 = cTwo := by decide +kernel
    have hs : cn rs = lnS0 m0 := by rw [HSS.out, HA.out, HT.out, c1, c2, HM0.out]; rfl
    rw [HZ.out, hs]; rfl)
  go_loopw [10, 11] (SerPRel (cn rz) w) (fun _ v _ => (intOf v).toNat)
  case atStart => exact ⟨0, _, _, by omega, rfl, cn_zero, rfl, by first | rfl | (simp only [World.drewN_drewN]; rfl)⟩
  case round =>
    obtain ⟨j, p, m, hj, rfl, hp, rfl, rfl⟩ := hrel
    have HP := Lib.hid hp
    clear hp
    by_cases hlt2 : j < 12
    · have d1 : decide ((1 : Int) ≤ 12 - (j : Int)) = true := decide_eq_true (by omega)
      have HWZ : Hid (cn (floatOfInt .f64 (2 * (12 - (j : Int)) + 1)) = wz (2 * (12 - (j : Int)) + 1)) := Lib.hid (by rw [wz_eq]; exact cn_wz (by omega))
      go_wp2_with (refine wpList_fop _ _ _ _ _ _ _ rfl rfl rfl ?_; intro r9 n9 hr9)
      go_roundw
      case rel =>
        refine ⟨j + 1, _, _, by omega, rfl, ?_, by rw [show (12 : Int) - ((j + 1 : Nat) : Int) = 12 - (j : Int) - 1 by omega], by first | rfl | (simp only [World.drewN_drewN]; rfl)⟩
        rw [serP]
        simp only [fop_add, fop_mul, fop_quo, HP.out, HWZ.out, cn_c1, *]
      case measure => simp [intOf]; omega
    · have d1 : decide ((1 : Int) ≤ 12 - (j : Int)) = false := decide_eq_false (by omega)
      have hj12 : j = 12 := by omega
      subst hj12
      clear hlt2 hj
      go_wp2_with (first | (refine wpList_fop .mul _ _ _ _ 4611686018427387904 rs rfl rfl rfl ?_; intro rw nw hw; have HW := Lib.hid hw; clear hw) | (refine wpList_fop .mul _ _ _ _ rw p rfl rfl rfl ?_; intro rwp nwp hwp; have HWP := Lib.hid hwp; clear hwp) | (refine wpList_fop .add _ _ _ _ rw rwp rfl rfl rfl ?_; intro rl nl hl; have HL := Lib.hid hl; clear hl))
      go_ret2
      exact ⟨m0, k, rl, _, HLP.out, by have := HK.out; omega, by have := HK.out; omega, by rw [show k = (E : Int) - 1023 from by have := HK.out; omega, ← wz_eq]; rfl, lnSer_of HT.out HA.out HSS.out (by rw [HP.out, HZ2.out]) HW.out HWP.out HL.out HM0.out, by first | rfl | (simp only [World.drewN_drewN]; rfl)⟩

set_option maxHeartbeats 4000000 in
set_option maxRecDepth 100000 in
theorem parts_norm_ge (x : Nat) (w : World) (h0 : 0 < x) (hx : x < 9218868437227405312) (E low : Nat) (hYY : x = E * 4503599627370496 + low) (hl : low < 4503599627370496) (hE1 : 1 ≤ E) (hE2 : E ≤ 2046) (m0 : Nat) (hm0 : m0 = 1023 * 4503599627370496 + low)
    (hg : dbl cHalf ≤ m0) (k : Int) (hk : k = (E : Int) - 1023 - 0 + 1) (hlp : LP x (hlf m0) k) :
    Calls Tryz.prog 120 #[.float .f64 x] w (PartsR x w) := by
  have HLP := Lib.hid hlp
  have hlt : (FloatKind.f64.format.order x 4503599627370496 == some .lt) = false := by rw [show (FloatKind.f64.format.order x 4503599627370496 == some .lt) = decide (x < 4503599627370496) from flt_small (by omega) (by omega)]; exact decide_eq_false (by omega)
  have hb1 : (x : Int) / 4503599627370496 = (E : Int) := by omega
  have hb2 := and_low' x E low hYY hl hE2
  have hb3 := or_1023 low hl
  rw [← hm0] at hb3
  have hf0 := frombits_run (m0 : Int)
  rw [Int.toNat_natCast] at hf0
  have hby := bits_run x
  have hf1 := frombits_run 4503599627370496
  have m01 : m0 < 9218868437227405312 := by omega
  have HM0 := Lib.hid (cn_small m01)
  rw [dbl_half] at hg
  have hgo : (FloatKind.f64.format.order m0 4609047870845172685 == some .gt || FloatKind.f64.format.order m0 4609047870845172685 == some .eq) = true := by rw [show (FloatKind.f64.format.order m0 4609047870845172685 == some .gt || FloatKind.f64.format.order m0 4609047870845172685 == some .eq) = decide (4609047870845172685 ≤ m0) from fge_small (by omega) (by omega)]; exact decide_eq_true (by omega)
  have HTH : Hid (fmul (cn 4611686018427387904) (cn hB) = 4609047870845172685) := Lib.hid (by decide +kernel)
  have HD : Hid (fdiv m0 cTwo = hlf m0) := Lib.hid (fdiv_two (by omega) m01)
  obtain ⟨m1, hm1⟩ : ∃ m1, m1 = hlf m0 := ⟨_, rfl⟩
  have m11 : m1 < 9218868437227405312 := by rw [hm1]; unfold hlf; omega
  rw [← hm1] at HD HLP
  have HM1 := Lib.hid (cn_small m11)
  have HN1 := Lib.hid (isF_notN (isF_small m11))
  have HK := Lib.hid hk
  have e1 : (1 : Int) ≤ (E : Int) := by omega
  have e2 : (E : Int) ≤ 2046 := by omega
  clear hlp hYY hl hE1 hE2 hm0 hg hk m01 h0 hx hm1 m11
  go_enter Tryz.func120, Tryz.ntmps120
  go_wp2_with (first | simp only [hf1] | simp only [hby] | simp only [hf0] | (go_at_call 142; refine (half_any _).mono ?_; rintro e w' ⟨rfl, rfl⟩) | (refine wpList_fop .mul _ _ _ _ 4611686018427387904 hB rfl rfl rfl ?_; intro rh nh hrh; have hrh2 : rh = 4609047870845172685 := eq_of_cn (c := 4609047870845172685) (by rw [hrh]; exact HTH.out) (by decide +kernel); subst hrh2; clear hrh) | (refine wpList_fop .quo _ _ _ _ m0 4611686018427387904 rfl rfl rfl ?_; intro rq nq hrq; have hrq2 : m1 = rq := (eq_of_cn (c := m1) (by rw [hrq, HM0.out]; exact (congrArg (fdiv m0) (show cn 4611686018427387904 = cTwo by decide +kernel)).trans HD.out) HN1.out).symm; subst hrq2; clear hrq) | (refine wpList_fop .sub _ _ _ _ m1 4607182418800017408 rfl rfl rfl ?_; intro rt nt ht; have HT := Lib.hid ht; clear ht) | (refine wpList_fop .add _ _ _ _ 4611686018427387904 rt rfl rfl rfl ?_; intro ra na ha; have HA := Lib.hid ha; clear ha) | (refine wpList_fop .quo _ _ _ _ rt ra rfl rfl rfl ?_; intro rs ns hs; have HSS := Lib.hid hs; clear hs) | (refine wpList_fop .mul _ _ _ _ rs rs rfl rfl rfl ?_; intro rz nz hz; have HZ := Lib.hid hz; clear hz))
  have HZ2 : Hid (cn rz = fmul (lnS0 m1) (lnS0 m1)) := Lib.hid (by
    have c1 : cn 4607182418800017408 = w1 := by decide +kernel
    have c2 : cn 4611686018427387904 = cTwo := by decide +kernel
    have hs : cn rs = lnS0 m1 := by rw [HSS.out, HA.out, HT.out, c1, c2, HM1.out]; rfl
    rw [HZ.out, hs]; rfl)
  go_loopw [10, 11] (SerPRel (cn rz) w) (fun _ v _ => (intOf v).toNat)
  case atStart => exact ⟨0, _, _, by omega, rfl, cn_zero, rfl, by first | rfl | (simp only [World.drewN_drewN]; rfl)⟩
  case round =>
    obtain ⟨j, p, m, hj, rfl, hp, rfl, rfl⟩ := hrel
    have HP := Lib.hid hp
    clear hp
    by_cases hlt2 : j < 12
    · have d1 : decide ((1 : Int) ≤ 12 - (j : Int)) = true := decide_eq_true (by omega)
      have HWZ : Hid (cn (floatOfInt .f64 (2 * (12 - (j : Int)) + 1)) = wz (2 * (12 - (j : Int)) + 1)) := Lib.hid (by rw [wz_eq]; exact cn_wz (by omega))
      go_wp2_with (refine wpList_fop _ _ _ _ _ _ _ rfl rfl rfl ?_; intro r9 n9 hr9)
      go_roundw
      case rel =>
        refine ⟨j + 1, _, _, by omega, rfl, ?_, by rw [show (12 : Int) - ((j + 1 : Nat) : Int) = 12 - (j : Int) - 1 by omega], by first | rfl | (simp only [World.drewN_drewN]; rfl)⟩
        rw [serP]
        simp only [fop_add, fop_mul, fop_quo, HP.out, HWZ.out, cn_c1, *]
      case measure => simp [intOf]; omega
    · have d1 : decide ((1 : Int) ≤ 12 - (j : Int)) = false := decide_eq_false (by omega)
      have hj12 : j = 12 := by omega
      subst hj12
      clear hlt2 hj
      go_wp2_with (first | (refine wpList_fop .mul _ _ _ _ 4611686018427387904 rs rfl rfl rfl ?_; intro rw nw hw; have HW := Lib.hid hw; clear hw) | (refine wpList_fop .mul _ _ _ _ rw p rfl rfl rfl ?_; intro rwp nwp hwp; have HWP := Lib.hid hwp; clear hwp) | (refine wpList_fop .add _ _ _ _ rw rwp rfl rfl rfl ?_; intro rl nl hl; have HL := Lib.hid hl; clear hl))
      go_ret2
      exact ⟨m1, k, rl, _, HLP.out, by have := HK.out; omega, by have := HK.out; omega, by rw [show k = (E : Int) - 1023 + 1 from by have := HK.out; omega, ← wz_eq]; rfl, lnSer_of HT.out HA.out HSS.out (by rw [HP.out, HZ2.out]) HW.out HWP.out HL.out HM1.out, by first | rfl | (simp only [World.drewN_drewN]; rfl)⟩

end Go.Proofs.YtmmfjknnbkcniaaGreatDoor
