/- The parts of a subnormal number. weirref06.Parts and series. -/
import Derived.Test.YtmmfjknnbkcniaaGreatDoorV17
set_option maxHeartbeats 64000000
set_option maxRecDepth 100000
namespace Go.Proofs.YtmmfjknnbkcniaaGreatDoor
open Go.Fl Go.Rel Go.RowKit
set_option linter.unusedSimpArgs false
set_option linter.unusedVariables false
theorem parts_sub_lt (x : Nat) (w : World) (h0 : 0 < x) (hx : x < 9218868437227405312) (Y : Nat) (hmul : fmul x 4850376798678024192 = Y) (E low : Nat) (hYY : Y = E * 4503599627370496 + low) (hl : low < 4503599627370496) (hE1 : 1 ≤ E) (hE2 : E ≤ 2046) (hs : x < 4503599627370496) (m0 : Nat) (hm0 : m0 = 1023 * 4503599627370496 + low)
  (hg : m0 < dbl cHalf) (k : Int) (hk : k = (E : Int) - 1023 - 54) (hlp : LP x m0 k) :
  Calls Tryz.prog 120 #[.float .f64 x] w (PartsR x w) := by
 have HLP := qh hlp
 have hlt : (FloatKind.f64.format.order x 4503599627370496 == some .lt) = true := by rw [show (FloatKind.f64.format.order x 4503599627370496 == some .lt) = decide (x < 4503599627370496) from flt_small (by omega) (by omega)]; exact decide_eq_true hs
 have hb1 : (Y : Int) / 4503599627370496 = (E : Int) := by omega
 have hb2 := and_low' Y E low hYY hl hE2
 have hb3 := or_1023 low hl
 rw [← hm0] at hb3
 have hf0 := frombits_run (m0 : Int)
 rw [Int.toNat_natCast] at hf0
 have hby := bits_run Y
 have hf1 := frombits_run 4503599627370496
 have m01 : m0 < 9218868437227405312 := by omega
 have HM0 := qh (cn_small m01)
 rw [dbl_half] at hg
 have hgo : (FloatKind.f64.format.order m0 4609047870845172685 == some .gt || FloatKind.f64.format.order m0 4609047870845172685 == some .eq) = false := by rw [show (FloatKind.f64.format.order m0 4609047870845172685 == some .gt || FloatKind.f64.format.order m0 4609047870845172685 == some .eq) = decide (4609047870845172685 ≤ m0) from fge_small (by omega) (by omega)]; exact decide_eq_false (by omega)
 have HTH : Hid (fmul (cn 4611686018427387904) (cn hB) = 4609047870845172685) := qh (by decide +kernel)
 have HY : Hid (cn Y = Y) := qh (cn_small (by omega))
 have HNY : Hid (isN Y = false) := qh (isF_notN (isF_small (by omega)))
 have HX : Hid (cn x = x) := qh (cn_small hx)
 have HMUL := qh hmul
 have HK := qh hk
 have e1 : (1 : Int) ≤ (E : Int) := by omega
 have e2 : (E : Int) ≤ 2046 := by omega
 clear hlp hYY hl hE1 hE2 hm0 hg hk m01 h0 hx hmul hs
 go_enter Tryz.func120, Tryz.ntmps120
 go_wp2_with (first | simp only [hf1] | simp only [hby] | simp only [hf0] | (go_at_call 142; refine (half_any _).mono ?_; rintro e w' ⟨rfl, rfl⟩) | (refine wpList_fop .mul _ _ _ _ x 4850376798678024192 rfl rfl rfl ?_; intro ry ny hry; have hry2 : Y = ry := (eq_of_cn (c := Y) (by rw [hry, HX.out]; exact (congrArg (fmul x) (show cn 4850376798678024192 = 4850376798678024192 by decide +kernel)).trans HMUL.out) HNY.out).symm; subst hry2; clear hry) | (refine wpList_fop .mul _ _ _ _ 4611686018427387904 hB rfl rfl rfl ?_; intro rh nh hrh; have hrh2 : rh = 4609047870845172685 := eq_of_cn (c := 4609047870845172685) (by rw [hrh]; exact HTH.out) (by decide +kernel); subst hrh2; clear hrh) | (refine wpList_fop .sub _ _ _ _ m0 4607182418800017408 rfl rfl rfl ?_; intro rt nt ht; have HT := qh ht; clear ht) | (refine wpList_fop .add _ _ _ _ 4611686018427387904 rt rfl rfl rfl ?_; intro ra na ha; have HA := qh ha; clear ha) | (refine wpList_fop .quo _ _ _ _ rt ra rfl rfl rfl ?_; intro rs ns hs; have HSS := qh hs; clear hs) | (refine wpList_fop .mul _ _ _ _ rs rs rfl rfl rfl ?_; intro rz nz hz; have HZ := qh hz; clear hz))
 have HZ2 : Hid (cn rz = fmul (lnS0 m0) (lnS0 m0)) := qh (by
  have c1 : cn 4607182418800017408 = w1 := by decide +kernel
  have c2 : cn 4611686018427387904 = cTwo := by decide +kernel
  have hs : cn rs = lnS0 m0 := by rw [HSS.out, HA.out, HT.out, c1, c2, HM0.out]; rfl
  rw [HZ.out, hs]; rfl)
 go_loopw [10, 11] (SerPRel (cn rz) w) (fun _ v _ => (intOf v).toNat)
 case atStart => exact ⟨0, _, _, by omega, rfl, cn_zero, rfl, by first | rfl | (simp only [World.drewN_drewN]; rfl)⟩
 case round =>
  obtain ⟨j, p, m, hj, rfl, hp, rfl, rfl⟩ := hrel
  have HP := qh hp
  clear hp
  by_cases hlt2 : j < 12
  ·have d1 : decide ((1 : Int) ≤ 12 - (j : Int)) = true := decide_eq_true (by omega)
   have HWZ : Hid (cn (floatOfInt .f64 (2 * (12 - (j : Int)) + 1)) = wz (2 * (12 - (j : Int)) + 1)) := qh (by rw [wz_eq]; exact cn_wz (by omega))
   go_wp2_with (refine wpList_fop _ _ _ _ _ _ _ rfl rfl rfl ?_; intro r9 n9 hr9)
   go_roundw
   case rel =>
    refine ⟨j + 1, _, _, by omega, rfl, ?_, by rw [show (12 : Int) - ((j + 1 : Nat) : Int) = 12 - (j : Int) - 1 by omega], by first | rfl | (simp only [World.drewN_drewN]; rfl)⟩
    rw [serP]
    simp only [fop_add, fop_mul, fop_quo, HP.out, HWZ.out, cn_c1, *]
   case measure => simp [intOf]; omega
  ·have d1 : decide ((1 : Int) ≤ 12 - (j : Int)) = false := decide_eq_false (by omega)
   have hj12 : j = 12 := by omega
   subst hj12
   clear hlt2 hj
   go_wp2_with (first | (refine wpList_fop .mul _ _ _ _ 4611686018427387904 rs rfl rfl rfl ?_; intro rw nw hw; have HW := qh hw; clear hw) | (refine wpList_fop .mul _ _ _ _ rw p rfl rfl rfl ?_; intro rwp nwp hwp; have HWP := qh hwp; clear hwp) | (refine wpList_fop .add _ _ _ _ rw rwp rfl rfl rfl ?_; intro rl nl hl; have HL := qh hl; clear hl))
   go_ret2
   exact ⟨m0, k, rl, _, HLP.out, by have := HK.out; omega, by have := HK.out; omega, by rw [show k = -54 + ((E : Int) - 1023) from by have := HK.out; omega, ← wz_eq]; rfl, lnSer_of HT.out HA.out HSS.out (by rw [HP.out, HZ2.out]) HW.out HWP.out HL.out HM0.out, by first | rfl | (simp only [World.drewN_drewN]; rfl)⟩
theorem parts_sub_ge (x : Nat) (w : World) (h0 : 0 < x) (hx : x < 9218868437227405312) (Y : Nat) (hmul : fmul x 4850376798678024192 = Y) (E low : Nat) (hYY : Y = E * 4503599627370496 + low) (hl : low < 4503599627370496) (hE1 : 1 ≤ E) (hE2 : E ≤ 2046) (hs : x < 4503599627370496) (m0 : Nat) (hm0 : m0 = 1023 * 4503599627370496 + low)
  (hg : dbl cHalf ≤ m0) (k : Int) (hk : k = (E : Int) - 1023 - 54 + 1) (hlp : LP x (hlf m0) k) :
  Calls Tryz.prog 120 #[.float .f64 x] w (PartsR x w) := by
 have HLP := qh hlp
 have hlt : (FloatKind.f64.format.order x 4503599627370496 == some .lt) = true := by rw [show (FloatKind.f64.format.order x 4503599627370496 == some .lt) = decide (x < 4503599627370496) from flt_small (by omega) (by omega)]; exact decide_eq_true hs
 have hb1 : (Y : Int) / 4503599627370496 = (E : Int) := by omega
 have hb2 := and_low' Y E low hYY hl hE2
 have hb3 := or_1023 low hl
 rw [← hm0] at hb3
 have hf0 := frombits_run (m0 : Int)
 rw [Int.toNat_natCast] at hf0
 have hby := bits_run Y
 have hf1 := frombits_run 4503599627370496
 have m01 : m0 < 9218868437227405312 := by omega
 have HM0 := qh (cn_small m01)
 rw [dbl_half] at hg
 have hgo : (FloatKind.f64.format.order m0 4609047870845172685 == some .gt || FloatKind.f64.format.order m0 4609047870845172685 == some .eq) = true := by rw [show (FloatKind.f64.format.order m0 4609047870845172685 == some .gt || FloatKind.f64.format.order m0 4609047870845172685 == some .eq) = decide (4609047870845172685 ≤ m0) from fge_small (by omega) (by omega)]; exact decide_eq_true (by omega)
 have HTH : Hid (fmul (cn 4611686018427387904) (cn hB) = 4609047870845172685) := qh (by decide +kernel)
 have HD : Hid (fdiv m0 cTwo = hlf m0) := qh (fdiv_two (by omega) m01)
 obtain ⟨m1, hm1⟩ : ∃ m1, m1 = hlf m0 := ⟨_, rfl⟩
 have m11 : m1 < 9218868437227405312 := by rw [hm1]; unfold hlf; omega
 rw [← hm1] at HD HLP
 have HM1 := qh (cn_small m11)
 have HN1 := qh (isF_notN (isF_small m11))
 have HY : Hid (cn Y = Y) := qh (cn_small (by omega))
 have HNY : Hid (isN Y = false) := qh (isF_notN (isF_small (by omega)))
 have HX : Hid (cn x = x) := qh (cn_small hx)
 have HMUL := qh hmul
 have HK := qh hk
 have e1 : (1 : Int) ≤ (E : Int) := by omega
 have e2 : (E : Int) ≤ 2046 := by omega
 clear hlp hYY hl hE1 hE2 hm0 hg hk m01 h0 hx hm1 m11 hmul hs
 go_enter Tryz.func120, Tryz.ntmps120
 go_wp2_with (first | simp only [hf1] | simp only [hby] | simp only [hf0] | (go_at_call 142; refine (half_any _).mono ?_; rintro e w' ⟨rfl, rfl⟩) | (refine wpList_fop .mul _ _ _ _ x 4850376798678024192 rfl rfl rfl ?_; intro ry ny hry; have hry2 : Y = ry := (eq_of_cn (c := Y) (by rw [hry, HX.out]; exact (congrArg (fmul x) (show cn 4850376798678024192 = 4850376798678024192 by decide +kernel)).trans HMUL.out) HNY.out).symm; subst hry2; clear hry) | (refine wpList_fop .mul _ _ _ _ 4611686018427387904 hB rfl rfl rfl ?_; intro rh nh hrh; have hrh2 : rh = 4609047870845172685 := eq_of_cn (c := 4609047870845172685) (by rw [hrh]; exact HTH.out) (by decide +kernel); subst hrh2; clear hrh) | (refine wpList_fop .quo _ _ _ _ m0 4611686018427387904 rfl rfl rfl ?_; intro rq nq hrq; have hrq2 : m1 = rq := (eq_of_cn (c := m1) (by rw [hrq, HM0.out]; exact (congrArg (fdiv m0) (show cn 4611686018427387904 = cTwo by decide +kernel)).trans HD.out) HN1.out).symm; subst hrq2; clear hrq) | (refine wpList_fop .sub _ _ _ _ m1 4607182418800017408 rfl rfl rfl ?_; intro rt nt ht; have HT := qh ht; clear ht) | (refine wpList_fop .add _ _ _ _ 4611686018427387904 rt rfl rfl rfl ?_; intro ra na ha; have HA := qh ha; clear ha) | (refine wpList_fop .quo _ _ _ _ rt ra rfl rfl rfl ?_; intro rs ns hs; have HSS := qh hs; clear hs) | (refine wpList_fop .mul _ _ _ _ rs rs rfl rfl rfl ?_; intro rz nz hz; have HZ := qh hz; clear hz))
 have HZ2 : Hid (cn rz = fmul (lnS0 m1) (lnS0 m1)) := qh (by
  have c1 : cn 4607182418800017408 = w1 := by decide +kernel
  have c2 : cn 4611686018427387904 = cTwo := by decide +kernel
  have hs : cn rs = lnS0 m1 := by rw [HSS.out, HA.out, HT.out, c1, c2, HM1.out]; rfl
  rw [HZ.out, hs]; rfl)
 go_loopw [10, 11] (SerPRel (cn rz) w) (fun _ v _ => (intOf v).toNat)
 case atStart => exact ⟨0, _, _, by omega, rfl, cn_zero, rfl, by first | rfl | (simp only [World.drewN_drewN]; rfl)⟩
 case round =>
  obtain ⟨j, p, m, hj, rfl, hp, rfl, rfl⟩ := hrel
  have HP := qh hp
  clear hp
  by_cases hlt2 : j < 12
  ·have d1 : decide ((1 : Int) ≤ 12 - (j : Int)) = true := decide_eq_true (by omega)
   have HWZ : Hid (cn (floatOfInt .f64 (2 * (12 - (j : Int)) + 1)) = wz (2 * (12 - (j : Int)) + 1)) := qh (by rw [wz_eq]; exact cn_wz (by omega))
   go_wp2_with (refine wpList_fop _ _ _ _ _ _ _ rfl rfl rfl ?_; intro r9 n9 hr9)
   go_roundw
   case rel =>
    refine ⟨j + 1, _, _, by omega, rfl, ?_, by rw [show (12 : Int) - ((j + 1 : Nat) : Int) = 12 - (j : Int) - 1 by omega], by first | rfl | (simp only [World.drewN_drewN]; rfl)⟩
    rw [serP]
    simp only [fop_add, fop_mul, fop_quo, HP.out, HWZ.out, cn_c1, *]
   case measure => simp [intOf]; omega
  ·have d1 : decide ((1 : Int) ≤ 12 - (j : Int)) = false := decide_eq_false (by omega)
   have hj12 : j = 12 := by omega
   subst hj12
   clear hlt2 hj
   go_wp2_with (first | (refine wpList_fop .mul _ _ _ _ 4611686018427387904 rs rfl rfl rfl ?_; intro rw nw hw; have HW := qh hw; clear hw) | (refine wpList_fop .mul _ _ _ _ rw p rfl rfl rfl ?_; intro rwp nwp hwp; have HWP := qh hwp; clear hwp) | (refine wpList_fop .add _ _ _ _ rw rwp rfl rfl rfl ?_; intro rl nl hl; have HL := qh hl; clear hl))
   go_ret2
   exact ⟨m1, k, rl, _, HLP.out, by have := HK.out; omega, by have := HK.out; omega, by rw [show k = -54 + ((E : Int) - 1023) + 1 from by have := HK.out; omega, ← wz_eq]; rfl, lnSer_of HT.out HA.out HSS.out (by rw [HP.out, HZ2.out]) HW.out HWP.out HL.out HM1.out, by first | rfl | (simp only [World.drewN_drewN]; rfl)⟩
end Go.Proofs.YtmmfjknnbkcniaaGreatDoor
namespace Go.Proofs.YtmmfjknnbkcniaaGreatDoor
open Go.Fl Go.Rel Go.RowKit
set_option linter.unusedSimpArgs false
set_option linter.unusedVariables false
def fbits (v : Value) : Nat := match v with | .float _ b => b | _ => 0
theorem c_bound {x y c : Nat} (h0 : 0 < x) (hy : y < dbl cHalf) (h : unitsOf y = unitsOf x * 2 ^ c) : c < 1075 := by
 have u1 := unitsOf_lt hy
 have u0 := unitsOf_pos.2 h0
 have hd : dbl cHalf < 1024 * 4503599627370496 := by decide
 obtain ⟨J, hJ⟩ : ∃ J : Nat, J = 1024 := ⟨_, rfl⟩
 have u2 := unitsOf_lt hd
 have u3 := units_norm (E := J) (low := 0) (by omega) (by omega)
 rw [Nat.add_zero, Nat.add_zero] at u3
 have hJ2 : 1024 * 4503599627370496 = J * 4503599627370496 := by rw [hJ]
 rw [hJ2, u3] at u2
 have hp : 4503599627370496 * 2 ^ (J - 1) = 2 ^ 52 * 2 ^ (J - 1) := by
  have : (2 : Nat) ^ 52 = 4503599627370496 := by decide
  rw [this]
 rw [hp, ← Nat.pow_add] at u2
 have h2 : 2 ^ c < 2 ^ (52 + (J - 1)) := by
  have : 1 * 2 ^ c ≤ unitsOf x * 2 ^ c := Nat.mul_le_mul_right _ u0
  rw [Nat.one_mul, ← h] at this
  exact Nat.lt_of_le_of_lt this (Nat.lt_trans u1 u2)
 have := (Nat.pow_lt_pow_iff_right (by omega)).1 h2
 clear u1 u2 u3 h h2 hp hJ2 u0 hd hy
 omega
def RPartsR (x : Nat) (w : World) (e : Ending) (w' : World) : Prop :=
 ∃ (m : Nat) (k : Int) (n : Nat), LP x m k ∧ -1100 ≤ k ∧ k ≤ 2100 ∧ e = .returned (.tuple #[.float .f64 m, .int .i64 k]) ∧ m < 9218868437227405312 ∧ w' = w.drewN n
def PUp (x : Nat) (w : World) (v0 v4 : Value) (wr : World) : Prop :=
 ∃ y c m : Nat, v0 = .float .f64 y ∧ v4 = .int .i64 (-(c : Int)) ∧ wr = w.drewN m ∧ 0 < y ∧ y < 9218868437227405312 ∧ unitsOf y = unitsOf x * 2 ^ c ∧ (c = 0 ∨ y < dbl cHalf)
def PDown (x : Nat) (w : World) (v0 v4 : Value) (wr : World) : Prop :=
 ∃ y c d m : Nat, v0 = .float .f64 y ∧ v4 = .int .i64 ((d : Int) - (c : Int)) ∧ wr = w.drewN m ∧ cHalf ≤ y ∧ y + d * 4503599627370496 < 9218868437227405312 ∧ unitsOf y * 2 ^ d = unitsOf x * 2 ^ c ∧ c < 1075
theorem dbl_lt {y : Nat} (h0 : 0 < y) (h : y < cHalf) : y < dbl y ∧ dbl y < dbl cHalf := by
 have : cHalf = 4604544271217802189 := rfl
 have e : dbl cHalf = 4609047870845172685 := by decide
 rw [e]
 unfold dbl
 split <;> omega
theorem rparts_any (x : Nat) (w : World) (h0 : 0 < x) (hx : x < 9218868437227405312) : Calls Tryz.prog 153 #[.float .f64 x] w (RPartsR x w) := by
 have HTH : Hid (fmul (cn 4611686018427387904) (cn hB) = 4609047870845172685) := qh (by decide +kernel)
 have H0 := qh h0
 have HX := qh hx
 have hhb : hB = cHalf := rfl
 have HHB := qh hhb
 clear h0 hx hhb
 go_enter Tryz.func153, Tryz.ntmps153
 go_wp2_with fail
 go_loopw [0, 4] (PUp x w) (fun v _ _ => 4604544271217802189 - fbits v)
 case atStart => exact ⟨x, 0, 0, rfl, rfl, rfl, H0.out, HX.out, by rw [Nat.pow_zero, Nat.mul_one], .inl rfl⟩
 case round =>
  obtain ⟨y, c, m, rfl, rfl, rfl, hy0, hy1, hu, hc⟩ := hrel
  have HU := qh hu
  have HC := qh hc
  have HY0 := qh hy0
  have HY1 := qh hy1
  clear hu hc
  by_cases hlt : y < cHalf
  ·have d1 : (FloatKind.f64.format.order y hB == some .lt) = true := by
    rw [show (FloatKind.f64.format.order y hB == some .lt) = decide (y < hB) from flt_small (by omega) (by decide)]; exact decide_eq_true hlt
   have hdd := dbl_lt hy0 hlt
   have hcb := c_bound H0.out (Nat.lt_trans hdd.1 hdd.2) HU.out
   have HDD := qh hdd
   have hlt1 : dbl y < 9218868437227405312 := Nat.lt_trans hdd.2 (by decide)
   have HM : Hid (fmul y cTwo = dbl y) := qh (fmul_two hlt1 hy1)
   have HCY := qh (cn_small hy1)
   have ND := qh (isF_notN (isF_small hlt1))
   have HLT1 := qh hlt1
   have HLT := qh hlt
   clear hdd hlt1 hlt hy0 hy1
   go_wp2_with (first | (go_at_call 162; refine (rhalf_any _).mono ?_; rintro e w' ⟨rfl, rfl⟩) | (refine wpList_fop .mul _ _ _ _ y 4611686018427387904 rfl rfl rfl ?_; intro r nr hr; have hr2 : r = dbl y := eq_of_cn (c := dbl y) (by rw [hr, HCY.out]; exact (congrArg (fmul y) (show cn 4611686018427387904 = cTwo by decide +kernel)).trans HM.out) ND.out; subst hr2; clear hr))
   go_roundw
   case rel =>
    refine ⟨dbl y, c + 1, _, rfl, by rw [show -((c + 1 : Nat) : Int) = -(c : Int) - 1 by omega], by first | rfl | (simp only [World.drewN_drewN]; rfl), by have := HDD.out.1; omega, HLT1.out, ?_, .inr HDD.out.2⟩
    rw [units_dbl, HU.out, Nat.pow_succ]
    generalize 2 ^ c = g
    ac_rfl
   case measure =>
    have h1 := HDD.out.1
    have h2 := HLT.out
    have h3 : cHalf = 4604544271217802189 := rfl
    simp [fbits]
    omega
  ·have d1 : (FloatKind.f64.format.order y hB == some .lt) = false := by
    rw [show (FloatKind.f64.format.order y hB == some .lt) = decide (y < hB) from flt_small (by omega) (by decide)]; exact decide_eq_false hlt
   have hge : cHalf ≤ y := by omega
   have hcb : c < 1075 := by
    rcases HC.out with h | h
    ·omega
    ·exact c_bound H0.out h HU.out
   have HGE := qh hge
   clear hlt hge hy0 hy1
   go_wp2_with (go_at_call 162; refine (rhalf_any _).mono ?_; rintro e w' ⟨rfl, rfl⟩)
   go_loopw [0, 4] (PDown x w) (fun v _ _ => fbits v)
   case atStart => exact ⟨y, c, 0, m, rfl, by simp, rfl, HGE.out, by have := HY1.out; omega, by rw [Nat.pow_zero, Nat.mul_one]; exact HU.out, hcb⟩
   case round =>
    clear HU HC HY0 HY1 HGE d1 hcb
    obtain ⟨y', c', d, m', rfl, rfl, rfl, hge, hd, hu, hcb⟩ := hrel
    have HU := qh hu
    have HGE := qh hge
    have hd2 : d < 2047 := by omega
    have hy1 : y' < 9218868437227405312 := by omega
    have HD := qh hd
    have HY1 := qh hy1
    clear hu hge hd
    by_cases hlt : dbl cHalf ≤ y'
    ·have d1 : (FloatKind.f64.format.order y' 4609047870845172685 == some .gt || FloatKind.f64.format.order y' 4609047870845172685 == some .eq) = true := by
      rw [show (FloatKind.f64.format.order y' 4609047870845172685 == some .gt || FloatKind.f64.format.order y' 4609047870845172685 == some .eq) = decide (4609047870845172685 ≤ y') from fge_small (by omega) (by omega)]; rw [dbl_half] at hlt; exact decide_eq_true hlt
     have hlt2 := hlt
     rw [dbl_half] at hlt2
     have HM : Hid (fdiv y' cTwo = hlf y') := qh (fdiv_two (by omega) hy1)
     have HCY := qh (cn_small hy1)
     have hh : hlf y' < 9218868437227405312 := by unfold hlf; omega
     have ND := qh (isF_notN (isF_small hh))
     have HLT := qh hlt2
     obtain ⟨z, hz⟩ : ∃ z, z = hlf y' := ⟨_, rfl⟩
     rw [← hz] at HM ND
     have HZ := qh hz
     clear hlt hlt2 hy1 hh hz
     go_wp2_with (first | (go_at_call 162; refine (rhalf_any _).mono ?_; rintro e w' ⟨rfl, rfl⟩) | (refine wpList_fop .mul _ _ _ _ 4611686018427387904 hB rfl rfl rfl ?_; intro rh nh hrh; have hrh2 : rh = 4609047870845172685 := eq_of_cn (c := 4609047870845172685) (by rw [hrh]; exact HTH.out) (by decide +kernel); subst hrh2; clear hrh) | (refine wpList_fop .quo _ _ _ _ y' 4611686018427387904 rfl rfl rfl ?_; intro r nr hr; have hr2 : z = r := (eq_of_cn (c := z) (by rw [hr, HCY.out]; exact (congrArg (fdiv y') (show cn 4611686018427387904 = cTwo by decide +kernel)).trans HM.out) ND.out).symm; subst hr2; clear hr))
     go_roundw
     case rel =>
      have h3 := HLT.out
      have h4 : cHalf = 4604544271217802189 := rfl
      refine ⟨z, c', d + 1, _, rfl, by rw [show ((d + 1 : Nat) : Int) - (c' : Int) = (d : Int) - (c' : Int) + 1 by omega], by first | rfl | (simp only [World.drewN_drewN]; rfl), by rw [HZ.out]; unfold hlf; omega, by have := HD.out; rw [HZ.out]; unfold hlf; omega, ?_, hcb⟩
      rw [HZ.out]
      rw [← HU.out, ← units_hlf (show 9007199254740992 ≤ y' by omega), Nat.pow_succ]
      generalize unitsOf (hlf y') = q
      generalize 2 ^ d = g
      ac_rfl
     case measure =>
      have h3 := HLT.out
      have h5 := HZ.out
      unfold hlf at h5
      simp [fbits]
      omega
    ·have d1 : (FloatKind.f64.format.order y' 4609047870845172685 == some .gt || FloatKind.f64.format.order y' 4609047870845172685 == some .eq) = false := by
      rw [show (FloatKind.f64.format.order y' 4609047870845172685 == some .gt || FloatKind.f64.format.order y' 4609047870845172685 == some .eq) = decide (4609047870845172685 ≤ y') from fge_small (by omega) (by omega)]; rw [dbl_half] at hlt; exact decide_eq_false hlt
     have hlp : LP x y' ((d : Int) - (c' : Int)) := ⟨HGE.out, by omega, c', d, HU.out, rfl⟩
     have HLP := qh hlp
     clear hlp hlt hy1
     go_wp2_with (first | (go_at_call 162; refine (rhalf_any _).mono ?_; rintro e w' ⟨rfl, rfl⟩) | (refine wpList_fop .mul _ _ _ _ 4611686018427387904 hB rfl rfl rfl ?_; intro rh nh hrh; have hrh2 : rh = 4609047870845172685 := eq_of_cn (c := 4609047870845172685) (by rw [hrh]; exact HTH.out) (by decide +kernel); subst hrh2; clear hrh))
     go_ret2
     exact ⟨y', _, _, HLP.out, by omega, by omega, rfl, HY1.out, by first | rfl | (simp only [World.drewN_drewN]; rfl)⟩
end Go.Proofs.YtmmfjknnbkcniaaGreatDoor
