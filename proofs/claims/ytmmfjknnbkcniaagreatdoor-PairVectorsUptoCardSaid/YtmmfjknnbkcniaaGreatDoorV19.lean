/- Ln, Log2, Log10 on both sides. Is a number whole, is it odd; a whole power; both sides. -/
import Derived.Test.YtmmfjknnbkcniaaGreatDoorV18
import Derived.Test.YtmmfjknnbkcniaaGreatDoorV16
set_option maxHeartbeats 64000000
set_option maxRecDepth 100000
namespace Go.Fl
noncomputable def lpOf (x : Nat) : Nat × Int := Classical.epsilon fun p => LP x p.1 p.2
theorem lpOf_eq {x m : Nat} {e : Int} (h : LP x m e) : lpOf x = (m, e) := by
 have : LP x (lpOf x).1 (lpOf x).2 := Classical.epsilon_spec (p := fun p : Nat × Int => LP x p.1 p.2) ⟨(m, e), h⟩
 obtain ⟨h1, h2⟩ := lp_one this h
 exact Prod.ext h1 h2
noncomputable def lnS (x : Nat) : Nat := (lnEdge x).getD (lnV (lpOf x).1 (lpOf x).2)
theorem lnS_some {x v : Nat} (h : lnEdge x = some v) : lnS x = v := by unfold lnS; rw [h]; rfl
theorem lnS_none {x m : Nat} {e : Int} (h : lnEdge x = none) (hl : LP x m e) : lnS x = lnV m e := by unfold lnS; rw [h, lpOf_eq hl]; rfl
end Go.Fl
namespace Go.Proofs.YtmmfjknnbkcniaaGreatDoor
open Go.Fl Go.Rel Go.RowKit
set_option linter.unusedSimpArgs false
set_option linter.unusedVariables false
theorem finf_up {x : Nat} (h : isN x = false) (h2 : (ford x 0 == some .lt) = false) : finf x = (ford x pinf == some .eq) := by
 have n0 : isN 0 = false := by decide +kernel
 have np : isN pinf = false := by decide +kernel
 have nm : isN 9218868437227405311 = false := by decide +kernel
 have p0 : pl 0 = 0 := by decide +kernel
 have pp : pl pinf = 9218868437227405312 := by decide +kernel
 have pm : pl 9218868437227405311 = 9218868437227405311 := by decide +kernel
 have hx0 : 0 ≤ pl x := by
  rw [ford_pl h n0, p0] at h2
  rcases Int.lt_or_le (pl x) 0 with g | g
  ·rw [Std.compare_eq_lt.2 g] at h2; simp at h2
  ·exact g
 have hplx : pl x = (rung x : Int) := by
  unfold pl at hx0 ⊢
  rw [h] at hx0 ⊢
  simp only [Bool.false_eq_true, if_false] at hx0 ⊢
  split at hx0
  ·rw [if_pos (by assumption)]; omega
  ·rw [if_neg (by assumption)]
 have hab : fabs x = rung x := by unfold fabs; rw [h]; rfl
 have hr := rung_lt_sw x
 have na : isN (rung x) = false := by
  have := isN_mod x
  unfold top at this
  have e : rung x = x % 9223372036854775808 := rfl
  rw [e, this, h]
 have pa : pl (rung x) = (rung x : Int) := by unfold pl; rw [na, sgn_small hr, rung_small hr]; rfl
 unfold finf
 rw [hab, ford_pl na nm, ford_pl h np, pa, pm, pp, hplx]
 have b := pl_notN h
 rw [hplx] at b
 have kc : ∀ z : Int, compare z z = .eq := fun z => Std.ReflCmp.compare_self
 by_cases g : rung x = 9218868437227405312
 ·rw [g, Std.compare_eq_gt.2 (by omega), show compare ((9218868437227405312 : Nat) : Int) 9218868437227405312 = .eq from kc _]; rfl
 ·have g2 : rung x ≤ 9218868437227405311 := by omega
  have e2 : compare ((rung x : Nat) : Int) 9218868437227405312 = .lt := Std.compare_eq_lt.2 (by omega)
  rw [e2]
  rcases Nat.lt_or_ge (rung x) 9218868437227405311 with g3 | g3
  ·rw [Std.compare_eq_lt.2 (by omega)]; rfl
  ·have : rung x = 9218868437227405311 := by omega
   rw [this, show compare ((9218868437227405311 : Nat) : Int) 9218868437227405311 = .eq from kc _]; rfl
def EdgeSome (v : Nat) (w : World) (e : Ending) (w' : World) : Prop := ∃ r, e = .returned (.tuple #[.float .f64 r, .bool true]) ∧ cn r = v ∧ w = w'
theorem edge_some (x v : Nat) (w : World) (h64 : W64 x) (h : lnEdge (cn x) = some v) : Calls Tryz.prog 119 #[.float .f64 x] w (EdgeSome v w) := by
 unfold lnEdge at h
 rw [isN_cn, ford_cn1, ford_cn1] at h
 cases hx : isN x
 case true =>
  rw [hx, if_pos rfl] at h
  cases h
  clear h64
  go_enter Tryz.func119, Tryz.ntmps119
  go_wp2_with (first | (go_at_call 75; refine (isnan_any _ _).mono ?_; rintro e w' ⟨rfl, rfl⟩) | (go_at_call 76; refine (nan_any _).mono ?_; rintro e w' ⟨rfl, rfl⟩) | (go_at_call 110; refine (inf_down _).mono ?_; rintro e w' ⟨rfl, rfl⟩) | (go_at_call 110; refine (inf_up _).mono ?_; rintro e w' ⟨rfl, rfl⟩) | (go_at_call 77; refine (infinite_any _ _).mono ?_; rintro e w' ⟨rfl, rfl⟩; rw [HF]))
  go_ret2
  exact ⟨_, rfl, cn_nanc, rfl⟩
 case false =>
 rw [hx, if_neg (by simp)] at h
 cases h1 : (ford x 0 == some .lt)
 case true =>
  rw [h1, if_pos rfl] at h
  cases h
  have h1' : (FloatKind.f64.format.order x 0 == some .lt) = true := h1
  clear h1 h64
  go_enter Tryz.func119, Tryz.ntmps119
  go_wp2_with (first | (go_at_call 75; refine (isnan_any _ _).mono ?_; rintro e w' ⟨rfl, rfl⟩) | (go_at_call 76; refine (nan_any _).mono ?_; rintro e w' ⟨rfl, rfl⟩) | (go_at_call 110; refine (inf_down _).mono ?_; rintro e w' ⟨rfl, rfl⟩) | (go_at_call 110; refine (inf_up _).mono ?_; rintro e w' ⟨rfl, rfl⟩) | (go_at_call 77; refine (infinite_any _ _).mono ?_; rintro e w' ⟨rfl, rfl⟩; rw [HF]))
  go_ret2
  exact ⟨_, rfl, cn_nanc, rfl⟩
 case false =>
 rw [h1, if_neg (by simp)] at h
 have h1' : (FloatKind.f64.format.order x 0 == some .lt) = false := h1
 cases h2 : (ford x 0 == some .eq)
 case true =>
  rw [h2, if_pos rfl] at h
  cases h
  have h2' : (FloatKind.f64.format.order x 0 == some .eq) = true := h2
  clear h1 h2 h64
  go_enter Tryz.func119, Tryz.ntmps119
  go_wp2_with (first | (go_at_call 75; refine (isnan_any _ _).mono ?_; rintro e w' ⟨rfl, rfl⟩) | (go_at_call 76; refine (nan_any _).mono ?_; rintro e w' ⟨rfl, rfl⟩) | (go_at_call 110; refine (inf_down _).mono ?_; rintro e w' ⟨rfl, rfl⟩) | (go_at_call 110; refine (inf_up _).mono ?_; rintro e w' ⟨rfl, rfl⟩) | (go_at_call 77; refine (infinite_any _ _).mono ?_; rintro e w' ⟨rfl, rfl⟩; rw [HF]))
  go_ret2
  exact ⟨_, rfl, cn_ninf, rfl⟩
 case false =>
 rw [h2, if_neg (by simp)] at h
 have h2' : (FloatKind.f64.format.order x 0 == some .eq) = false := h2
 cases h3 : (ford x pinf == some .eq)
 case false =>
  rw [h3, if_neg (by simp)] at h
  cases h
 case true =>
  rw [h3, if_pos rfl] at h
  cases h
  have hc := cn_of_notN hx
  have HF : finf (cn x) = true := by rw [hc, finf_up hx h1]; exact h3
  have hxp : cn x = pinf := by
   have np : isN pinf = false := by decide +kernel
   rw [ford_pl hx np] at h3
   have pp : pl pinf = 9218868437227405312 := by decide +kernel
   have hpx : pl x = 9218868437227405312 := by
    rcases Int.lt_trichotomy (pl x) (pl pinf) with g | g | g
    ·rw [Std.compare_eq_lt.2 g] at h3; simp at h3
    ·rw [g, pp]
    ·rw [Std.compare_eq_gt.2 g] at h3; simp at h3
   unfold W64 at h64
   rw [hc] at h64
   unfold pl at hpx
   rw [hx] at hpx
   simp only [Bool.false_eq_true, if_false] at hpx
   have hr := rung_lt_sw x
   have hre : rung x = x % 9223372036854775808 := rfl
   rw [hc]
   cases hs : sgn x
   ·rw [hs] at hpx
    simp only [Bool.false_eq_true, if_false] at hpx
    unfold sgn at hs
    simp at hs
    unfold pinf
    omega
   ·rw [hs] at hpx
    simp only [if_true] at hpx
    omega
  have HXP := qh hxp
  clear h1 h2 h3 hc hxp h64
  go_enter Tryz.func119, Tryz.ntmps119
  go_wp2_with (first | (go_at_call 75; refine (isnan_any _ _).mono ?_; rintro e w' ⟨rfl, rfl⟩) | (go_at_call 76; refine (nan_any _).mono ?_; rintro e w' ⟨rfl, rfl⟩) | (go_at_call 110; refine (inf_down _).mono ?_; rintro e w' ⟨rfl, rfl⟩) | (go_at_call 110; refine (inf_up _).mono ?_; rintro e w' ⟨rfl, rfl⟩) | (go_at_call 77; refine (infinite_any _ _).mono ?_; rintro e w' ⟨rfl, rfl⟩; rw [HF]))
  go_ret2
  exact ⟨_, rfl, HXP.out, rfl⟩
theorem edge_none (x : Nat) (w : World) (h : lnEdge (cn x) = none) : Calls Tryz.prog 119 #[.float .f64 x] w fun e w' => e = .returned (.tuple #[.float .f64 0, .bool false]) ∧ w = w' := by
 unfold lnEdge at h
 rw [isN_cn, ford_cn1, ford_cn1] at h
 cases hx : isN x
 case true => rw [hx, if_pos rfl] at h; cases h
 case false =>
 rw [hx, if_neg (by simp)] at h
 cases h1 : (ford x 0 == some .lt)
 case true => rw [h1, if_pos rfl] at h; cases h
 case false =>
 rw [h1, if_neg (by simp)] at h
 cases h2 : (ford x 0 == some .eq)
 case true => rw [h2, if_pos rfl] at h; cases h
 case false =>
 rw [h2, if_neg (by simp)] at h
 cases h3 : (ford x pinf == some .eq)
 case true => rw [h3, if_pos rfl] at h; cases h
 case false =>
 have hc := cn_of_notN hx
 have HF : finf (cn x) = false := by rw [hc, finf_up hx h1]; exact h3
 have h1' : (FloatKind.f64.format.order x 0 == some .lt) = false := h1
 have h2' : (FloatKind.f64.format.order x 0 == some .eq) = false := h2
 clear h h1 h2 h3 hc
 go_enter Tryz.func119, Tryz.ntmps119
 go_wp2_with (first | (go_at_call 75; refine (isnan_any _ _).mono ?_; rintro e w' ⟨rfl, rfl⟩) | (go_at_call 76; refine (nan_any _).mono ?_; rintro e w' ⟨rfl, rfl⟩) | (go_at_call 110; refine (inf_down _).mono ?_; rintro e w' ⟨rfl, rfl⟩) | (go_at_call 110; refine (inf_up _).mono ?_; rintro e w' ⟨rfl, rfl⟩) | (go_at_call 77; refine (infinite_any _ _).mono ?_; rintro e w' ⟨rfl, rfl⟩; rw [HF]))
 go_ret2
 exact ⟨rfl, rfl⟩
theorem special_some (x v : Nat) (w : World) (h64 : W64 x) (h : lnEdge (cn x) = some v) : Calls Tryz.prog 152 #[.float .f64 x] w (EdgeSome v w) := by
 unfold lnEdge at h
 rw [isN_cn, ford_cn1, ford_cn1] at h
 cases hx : isN x
 case true =>
  rw [hx, if_pos rfl] at h
  cases h
  clear h64
  go_enter Tryz.func152, Tryz.ntmps152
  go_wp2_with (first | (go_at_call 126; refine (bad_any _ _).mono ?_; rintro e w' ⟨rfl, rfl⟩) | (go_at_call 128; refine (refnan_any _).mono ?_; rintro e w' ⟨rfl, rfl⟩) | (go_at_call 146; refine (rinf_down _).mono ?_; rintro e w' ⟨rfl, rfl⟩) | (go_at_call 146; refine (rinf_up _).mono ?_; rintro e w' ⟨rfl, rfl⟩) | (go_at_call 127; refine (endless_any _ _).mono ?_; rintro e w' ⟨rfl, rfl⟩; rw [HF]))
  go_ret2
  exact ⟨_, rfl, cn_nanc, rfl⟩
 case false =>
 rw [hx, if_neg (by simp)] at h
 cases h1 : (ford x 0 == some .lt)
 case true =>
  rw [h1, if_pos rfl] at h
  cases h
  have h1' : (FloatKind.f64.format.order x 0 == some .lt) = true := h1
  clear h1 h64
  go_enter Tryz.func152, Tryz.ntmps152
  go_wp2_with (first | (go_at_call 126; refine (bad_any _ _).mono ?_; rintro e w' ⟨rfl, rfl⟩) | (go_at_call 128; refine (refnan_any _).mono ?_; rintro e w' ⟨rfl, rfl⟩) | (go_at_call 146; refine (rinf_down _).mono ?_; rintro e w' ⟨rfl, rfl⟩) | (go_at_call 146; refine (rinf_up _).mono ?_; rintro e w' ⟨rfl, rfl⟩) | (go_at_call 127; refine (endless_any _ _).mono ?_; rintro e w' ⟨rfl, rfl⟩; rw [HF]))
  go_ret2
  exact ⟨_, rfl, cn_nanc, rfl⟩
 case false =>
 rw [h1, if_neg (by simp)] at h
 have h1' : (FloatKind.f64.format.order x 0 == some .lt) = false := h1
 cases h2 : (ford x 0 == some .eq)
 case true =>
  rw [h2, if_pos rfl] at h
  cases h
  have h2' : (FloatKind.f64.format.order x 0 == some .eq) = true := h2
  clear h1 h2 h64
  go_enter Tryz.func152, Tryz.ntmps152
  go_wp2_with (first | (go_at_call 126; refine (bad_any _ _).mono ?_; rintro e w' ⟨rfl, rfl⟩) | (go_at_call 128; refine (refnan_any _).mono ?_; rintro e w' ⟨rfl, rfl⟩) | (go_at_call 146; refine (rinf_down _).mono ?_; rintro e w' ⟨rfl, rfl⟩) | (go_at_call 146; refine (rinf_up _).mono ?_; rintro e w' ⟨rfl, rfl⟩) | (go_at_call 127; refine (endless_any _ _).mono ?_; rintro e w' ⟨rfl, rfl⟩; rw [HF]))
  go_ret2
  exact ⟨_, rfl, cn_ninf, rfl⟩
 case false =>
 rw [h2, if_neg (by simp)] at h
 have h2' : (FloatKind.f64.format.order x 0 == some .eq) = false := h2
 cases h3 : (ford x pinf == some .eq)
 case false =>
  rw [h3, if_neg (by simp)] at h
  cases h
 case true =>
  rw [h3, if_pos rfl] at h
  cases h
  have hc := cn_of_notN hx
  have HF : finf (cn x) = true := by rw [hc, finf_up hx h1]; exact h3
  have hxp : cn x = pinf := by
   have np : isN pinf = false := by decide +kernel
   rw [ford_pl hx np] at h3
   have pp : pl pinf = 9218868437227405312 := by decide +kernel
   have hpx : pl x = 9218868437227405312 := by
    rcases Int.lt_trichotomy (pl x) (pl pinf) with g | g | g
    ·rw [Std.compare_eq_lt.2 g] at h3; simp at h3
    ·rw [g, pp]
    ·rw [Std.compare_eq_gt.2 g] at h3; simp at h3
   unfold W64 at h64
   rw [hc] at h64
   unfold pl at hpx
   rw [hx] at hpx
   simp only [Bool.false_eq_true, if_false] at hpx
   have hr := rung_lt_sw x
   have hre : rung x = x % 9223372036854775808 := rfl
   rw [hc]
   cases hs : sgn x
   ·rw [hs] at hpx
    simp only [Bool.false_eq_true, if_false] at hpx
    unfold sgn at hs
    simp at hs
    unfold pinf
    omega
   ·rw [hs] at hpx
    simp only [if_true] at hpx
    omega
  have HXP := qh hxp
  clear h1 h2 h3 hc hxp h64
  go_enter Tryz.func152, Tryz.ntmps152
  go_wp2_with (first | (go_at_call 126; refine (bad_any _ _).mono ?_; rintro e w' ⟨rfl, rfl⟩) | (go_at_call 128; refine (refnan_any _).mono ?_; rintro e w' ⟨rfl, rfl⟩) | (go_at_call 146; refine (rinf_down _).mono ?_; rintro e w' ⟨rfl, rfl⟩) | (go_at_call 146; refine (rinf_up _).mono ?_; rintro e w' ⟨rfl, rfl⟩) | (go_at_call 127; refine (endless_any _ _).mono ?_; rintro e w' ⟨rfl, rfl⟩; rw [HF]))
  go_ret2
  exact ⟨_, rfl, cn_pinf, rfl⟩
theorem special_none (x : Nat) (w : World) (h : lnEdge (cn x) = none) : Calls Tryz.prog 152 #[.float .f64 x] w fun e w' => e = .returned (.tuple #[.float .f64 0, .bool false]) ∧ w = w' := by
 unfold lnEdge at h
 rw [isN_cn, ford_cn1, ford_cn1] at h
 cases hx : isN x
 case true => rw [hx, if_pos rfl] at h; cases h
 case false =>
 rw [hx, if_neg (by simp)] at h
 cases h1 : (ford x 0 == some .lt)
 case true => rw [h1, if_pos rfl] at h; cases h
 case false =>
 rw [h1, if_neg (by simp)] at h
 cases h2 : (ford x 0 == some .eq)
 case true => rw [h2, if_pos rfl] at h; cases h
 case false =>
 rw [h2, if_neg (by simp)] at h
 cases h3 : (ford x pinf == some .eq)
 case true => rw [h3, if_pos rfl] at h; cases h
 case false =>
 have hc := cn_of_notN hx
 have HF : finf (cn x) = false := by rw [hc, finf_up hx h1]; exact h3
 have h1' : (FloatKind.f64.format.order x 0 == some .lt) = false := h1
 have h2' : (FloatKind.f64.format.order x 0 == some .eq) = false := h2
 clear h h1 h2 h3 hc
 go_enter Tryz.func152, Tryz.ntmps152
 go_wp2_with (first | (go_at_call 126; refine (bad_any _ _).mono ?_; rintro e w' ⟨rfl, rfl⟩) | (go_at_call 128; refine (refnan_any _).mono ?_; rintro e w' ⟨rfl, rfl⟩) | (go_at_call 146; refine (rinf_down _).mono ?_; rintro e w' ⟨rfl, rfl⟩) | (go_at_call 146; refine (rinf_up _).mono ?_; rintro e w' ⟨rfl, rfl⟩) | (go_at_call 127; refine (endless_any _ _).mono ?_; rintro e w' ⟨rfl, rfl⟩; rw [HF]))
 go_ret2
 exact ⟨rfl, rfl⟩
theorem series_any (m : Nat) (w : World) (hm : cn m = m) : Calls Tryz.prog 154 #[.float .f64 m] w (FRet (lnSer m) w) := by
 have HM := qh hm
 clear hm
 go_enter Tryz.func154, Tryz.ntmps154
 go_wp2_with (first | (refine wpList_fop .sub _ _ _ _ m 4607182418800017408 rfl rfl rfl ?_; intro rt nt ht; have HT := qh ht; clear ht) | (refine wpList_fop .add _ _ _ _ 4611686018427387904 rt rfl rfl rfl ?_; intro ra na ha; have HA := qh ha; clear ha) | (refine wpList_fop .quo _ _ _ _ rt ra rfl rfl rfl ?_; intro rs ns hs; have HSS := qh hs; clear hs) | (refine wpList_fop .mul _ _ _ _ rs rs rfl rfl rfl ?_; intro rz nz hz; have HZ := qh hz; clear hz))
 have HZ2 : Hid (cn rz = fmul (lnS0 m) (lnS0 m)) := qh (by
  have c1 : cn 4607182418800017408 = w1 := by decide +kernel
  have c2 : cn 4611686018427387904 = cTwo := by decide +kernel
  have hs : cn rs = lnS0 m := by rw [HSS.out, HA.out, HT.out, c1, c2, HM.out]; rfl
  rw [HZ.out, hs]; rfl)
 go_loopw [6, 7] (SerPRel (cn rz) w) (fun _ v _ => (intOf v).toNat)
 case atStart => exact ⟨0, _, _, by omega, rfl, cn_zero, rfl, by first | rfl | (simp only [World.drewN_drewN]; rfl)⟩
 case round =>
  obtain ⟨j, p, m', hj, rfl, hp, rfl, rfl⟩ := hrel
  have HP := qh hp
  clear hp
  by_cases hlt2 : j < 12
  ·have d1 : decide ((1 : Int) ≤ 12 - (j : Int)) = true := decide_eq_true (by omega)
   have HWZ : Hid (cn (floatOfInt .f64 (2 * (12 - (j : Int)) + 1)) = wz (2 * (12 - (j : Int)) + 1)) := qh (by rw [wz_eq]; exact cn_wz (by omega))
   go_wp2_with (refine wpList_fop _ _ _ _ _ _ _ rfl rfl rfl ?_; intro r9 n9 hr9)
   go_roundw
   case rel =>
    refine ⟨j + 1, _, _, by omega, rfl, ?_, by rw [show (12 : Int) - ((j + 1 : Nat) : Int) = 12 - (j : Int) - 1 by omega], by first | rfl | (simp only [World.drewN_drewN]; rfl)⟩
    rw [serP]
    simp only [fop_add, fop_mul, fop_quo, HP.out, HWZ.out, cn_c1, *]
   case measure => simp [intOf]; omega
  ·have d1 : decide ((1 : Int) ≤ 12 - (j : Int)) = false := decide_eq_false (by omega)
   have hj12 : j = 12 := by omega
   subst hj12
   clear hlt2 hj
   go_wp2_with (first | (refine wpList_fop .mul _ _ _ _ 4611686018427387904 rs rfl rfl rfl ?_; intro rw nw hw; have HW := qh hw; clear hw) | (refine wpList_fop .mul _ _ _ _ rw p rfl rfl rfl ?_; intro rwp nwp hwp; have HWP := qh hwp; clear hwp) | (refine wpList_fop .add _ _ _ _ rw rwp rfl rfl rfl ?_; intro rl nl hl; have HL := qh hl; clear hl))
   go_ret
   exact ⟨rl, _, rfl, lnSer_of HT.out HA.out HSS.out (by rw [HP.out, HZ2.out]) HW.out HWP.out HL.out HM.out, by first | rfl | (simp only [World.drewN_drewN]; rfl)⟩
theorem parts_any (x : Nat) (w : World) (h0 : 0 < x) (hx : x < 9218868437227405312) : Calls Tryz.prog 120 #[.float .f64 x] w (PartsR x w) := by
 by_cases hs : x < 4503599627370496
 ·obtain ⟨E, low, hY, hl, E1, E2, hu⟩ := sub_scale h0 hs
  have hux : unitsOf x = x := by unfold unitsOf; rw [if_pos hs]
  have hlp := lp_norm (x := x) (Y := E * 4503599627370496 + low) (c := 54) rfl hl (by omega) (by rw [hu, hux])
  by_cases hg : dbl cHalf ≤ 1023 * 4503599627370496 + low
  ·exact parts_sub_ge x w h0 hx _ hY E low rfl hl (by omega) (by omega) hs _ rfl hg _ rfl (hlp.2 hg)
  ·exact parts_sub_lt x w h0 hx _ hY E low rfl hl (by omega) (by omega) hs _ rfl (by omega) _ rfl (hlp.1 (by omega))
 ·have hYY : x = x / 4503599627370496 * 4503599627370496 + x % 4503599627370496 := by omega
  have hl : x % 4503599627370496 < 4503599627370496 := Nat.mod_lt _ (by omega)
  have hlp := lp_norm (x := x) (Y := x) (c := 0) hYY hl (by omega) (by rw [Nat.pow_zero, Nat.mul_one])
  by_cases hg : dbl cHalf ≤ 1023 * 4503599627370496 + x % 4503599627370496
  ·exact parts_norm_ge x w h0 hx _ _ hYY hl (by omega) (by omega) _ rfl hg _ rfl (hlp.2 hg)
  ·exact parts_norm_lt x w h0 hx _ _ hYY hl (by omega) (by omega) _ rfl (by omega) _ rfl (hlp.1 (by omega))
theorem ln_any (x : Nat) (w : World) (h64 : W64 x) : Calls Tryz.prog 85 #[.float .f64 x] w (FRet (lnS (cn x)) w) := by
 cases hE : lnEdge (cn x) with
 | some v =>
  rw [lnS_some hE]
  have HE := qh hE
  have H64 := qh h64
  clear hE h64
  go_enter Tryz.func85, Tryz.ntmps85
  go_wp2_with (go_at_call 119; refine (edge_some _ _ _ H64.out HE.out).mono ?_; rintro e w' ⟨r, rfl, hr, rfl⟩; have HR := qh hr; clear hr)
  go_ret
  exact ⟨_, 0, rfl, HR.out, rfl⟩
 | none =>
  obtain ⟨x0, x1⟩ := lnEdge_none hE h64
  have hc : cn x = x := by
   cases hx : isN x
   ·exact cn_of_notN hx
   ·unfold lnEdge at hE; rw [isN_cn, hx, if_pos rfl] at hE; cases hE
  have HE := qh hE
  rw [hc] at x0 x1
  have X0 := qh x0
  have X1 := qh x1
  have HC := qh hc
  clear hE h64 x0 x1 hc
  go_enter Tryz.func85, Tryz.ntmps85
  go_wp2_with (first | (go_at_call 119; refine (edge_none _ _ HE.out).mono ?_; rintro e w' ⟨rfl, rfl⟩) | (go_at_call 120; refine (parts_any _ _ X0.out X1.out).mono ?_; rintro e w' ⟨m, k, r, n, hlp, hk1, hk2, rfl, hr, rfl⟩; have HLP := qh hlp; have HR := qh hr; have HWK : Hid (cn (wz k) = wz k) := qh (cn_wz (by omega)); clear hlp hr) | (go_at_call 116; refine (lnHi_any _).mono ?_; rintro e w' ⟨rfl, rfl⟩) | (go_at_call 117; refine (lnLo_any _).mono ?_; rintro e w' ⟨rfl, rfl⟩) | (refine wpList_fop _ _ _ _ _ _ _ rfl rfl rfl ?_; intro r9 n9 hr9))
  have h1 : cn 4604418534312771584 = cHi := by decide +kernel
  have h2 : cn 4455313330490472685 = cLo := by decide +kernel
  have h3 : cn 4609176140021203710 = cL := by decide +kernel
  go_ret
  refine ⟨_, _, rfl, ?_, by first | rfl | (simp only [World.drewN_drewN]; rfl)⟩
  rw [HC.out, lnS_none (by rw [← HC.out]; exact HE.out) HLP.out]
  unfold lnV
  simp only [fop_add, fop_mul, HR.out, HWK.out, *]
theorem refln_any (x : Nat) (w : World) (h64 : W64 x) : Calls Tryz.prog 135 #[.float .f64 x] w (FRet (lnS (cn x)) w) := by
 cases hE : lnEdge (cn x) with
 | some v =>
  rw [lnS_some hE]
  have HE := qh hE
  have H64 := qh h64
  clear hE h64
  go_enter Tryz.func135, Tryz.ntmps135
  go_wp2_with (go_at_call 152; refine (special_some _ _ _ H64.out HE.out).mono ?_; rintro e w' ⟨r, rfl, hr, rfl⟩; have HR := qh hr; clear hr)
  go_ret
  exact ⟨_, 0, rfl, HR.out, rfl⟩
 | none =>
  obtain ⟨x0, x1⟩ := lnEdge_none hE h64
  have hc : cn x = x := by
   cases hx : isN x
   ·exact cn_of_notN hx
   ·unfold lnEdge at hE; rw [isN_cn, hx, if_pos rfl] at hE; cases hE
  have HE := qh hE
  rw [hc] at x0 x1
  have X0 := qh x0
  have X1 := qh x1
  have HC := qh hc
  clear hE h64 x0 x1 hc
  go_enter Tryz.func135, Tryz.ntmps135
  go_wp2_with (first | (go_at_call 152; refine (special_none _ _ HE.out).mono ?_; rintro e w' ⟨rfl, rfl⟩) | (go_at_call 153; refine (rparts_any _ _ X0.out X1.out).mono ?_; rintro e w' ⟨m, k, n, hlp, hk1, hk2, rfl, hm, rfl⟩; have HLP := qh hlp; have HM := qh hm; have HWK : Hid (cn (floatOfInt .f64 k) = wz k) := qh (by rw [wz_eq]; exact cn_wz (by omega)); clear hlp hm) | (go_at_call 154; refine (series_any _ _ (cn_small HM.out)).mono ?_; rintro e w' ⟨r, n2, rfl, hr, rfl⟩; have HR := qh hr; clear hr) | (go_at_call 149; refine (rlnHi_any _).mono ?_; rintro e w' ⟨rfl, rfl⟩) | (go_at_call 150; refine (rlnLo_any _).mono ?_; rintro e w' ⟨rfl, rfl⟩) | (refine wpList_fop _ _ _ _ _ _ _ rfl rfl rfl ?_; intro r9 n9 hr9))
  have h1 : cn 4604418534312771584 = cHi := by decide +kernel
  have h2 : cn 4455313330490472685 = cLo := by decide +kernel
  have h3 : cn 4609176140021203710 = cL := by decide +kernel
  go_ret
  refine ⟨_, _, rfl, ?_, by first | rfl | (simp only [World.drewN_drewN]; rfl)⟩
  rw [HC.out, lnS_none (by rw [← HC.out]; exact HE.out) HLP.out]
  unfold lnV
  simp only [fop_add, fop_mul, HR.out, HWK.out, *]
end Go.Proofs.YtmmfjknnbkcniaaGreatDoor
namespace Go.Fl
open Ieee
def powF : Nat → Nat → Nat → Nat → Nat
 | 0, _, _, r => r
 | k + 1, n, a, r => if n = 0 then r else powF k (n / 2) (if 2 ≤ n then fmul a a else a) (if n % 2 = 1 then fmul r a else r)
theorem powF_zero (k a r : Nat) : powF k 0 a r = r := by cases k <;> simp [powF]
def fneg (s : Nat) : Nat := if isN s then nanc else Op.negFloat .f64 s
theorem rung_neg (b : Nat) : rung (Op.negFloat .f64 b) = rung b := by
 unfold rung Op.negFloat
 rw [show 2 ^ (FloatKind.f64.format.exponentBits + FloatKind.f64.format.fractionBits) = 2 ^ 63 from rfl, show (9223372036854775808 : Nat) = 2 ^ 63 by decide]
 apply Nat.eq_of_testBit_eq
 intro i
 rw [Nat.testBit_mod_two_pow, Nat.testBit_mod_two_pow, Nat.testBit_xor, Nat.testBit_two_pow]
 by_cases hi : i < 63
 ·simp [show ¬ 63 = i by omega]
 ·simp [hi]
theorem cn_neg (b : Nat) : cn (Op.negFloat .f64 b) = fneg (cn b) := by
 unfold fneg
 have h : isN (Op.negFloat .f64 b) = isN b := by rw [isN_iff, isN_iff, rung_neg]
 rw [isN_cn]
 cases hb : isN b
 ·rw [cn_of_notN (by rw [h, hb]), cn_of_notN hb]; rfl
 ·rw [cn_of_N (by rw [h, hb])]; rfl
end Go.Fl
namespace Go.Proofs.YtmmfjknnbkcniaaGreatDoor
open Go.Fl Go.Rel Go.RowKit
set_option linter.unusedSimpArgs false
set_option linter.unusedVariables false
theorem neg_run (v : Nat) (w : World) : (Op.unary UnOp.neg (.float .f64 v)).run Tryz.prog w = .ok (.float .f64 (Op.negFloat .f64 v)) w := rfl
def wholeB (x : Nat) : Bool := !isN x && (!finf (cn x) && (ford (ffloor (cn x)) x == some .eq))
def absLt (x c : Nat) : Bool := ford (x % top) c == some .lt
def toI (x : Nat) : Int := (floatToIntVal .f64 x .i64).getD 0
def oddB (x : Nat) : Bool := wholeB x && (absLt x 4845873199050653696 && ((toI x).tmod 2 != 0))
def BRet (b : Bool) (w : World) (e : Ending) (w' : World) : Prop := ∃ n, e = .returned (.bool b) ∧ w' = w.drewN n
theorem absLt_fin {x c : Nat} (hc : c < 9218868437227405312) (h : absLt x c = true) : isF x ∧ rung x < c := by
 unfold absLt at h
 have hm : x % top = rung x := rfl
 rw [hm] at h
 have hlt := rung_lt_sw x
 by_cases hN : isN (rung x) = true
 ·rw [ford_nan1 hN] at h; cases h
 ·have hN' : isN (rung x) = false := by cases e : isN (rung x) <;> simp_all
  rw [isN_iff, rung_small hlt] at hN'
  have h2 : ¬ 9218868437227405312 < rung x := of_decide_eq_false hN'
  rw [flt_pl (by rw [isN_iff, rung_small hlt]; exact hN') (isF_notN (isF_small hc)), pl_pos (by omega), pl_pos (by omega)] at h
  have := of_decide_eq_true h
  exact ⟨by unfold isF; omega, by omega⟩
theorem toI_some {x c m : Nat} (hc : c < 9218868437227405312) (hm : unitsOf c = m * U) (hm2 : m ≤ 9007199254740992) (hf : isF x) (h : rung x ≤ c) : floatToIntVal .f64 x .i64 = some (toI x) ∧ -(m : Int) ≤ toI x ∧ toI x ≤ (m : Int) := by
 have hu := unitsOf_le h
 rw [hm] at hu
 have hU : (0 : Int) < (U : Int) := by exact_mod_cast U_pos
 have hui : (unitsOf (rung x) : Int) ≤ (m : Int) * (U : Int) := by exact_mod_cast hu
 have hv : (uv x).natAbs = unitsOf (rung x) := by rcases uv_of_sgn (f := x) with e | e <;> rw [e] <;> omega
 have b1 : (-(m : Int)) * (U : Int) ≤ uv x := by
  rw [Int.neg_mul]
  generalize (m : Int) * (U : Int) = g at *
  omega
 have b2 : uv x ≤ (m : Int) * (U : Int) := by
  generalize (m : Int) * (U : Int) = g at *
  omega
 have e := toIntVal_fin hf b1 b2 (by omega) (by omega)
 have et : toI x = (uv x).tdiv (U : Int) := by unfold toI; rw [e]; rfl
 refine ⟨by rw [et]; exact e, ?_, ?_⟩
 ·have hb : ((uv x).tdiv (U : Int)).natAbs ≤ m := by
   rw [Int.natAbs_tdiv, Int.natAbs_natCast]
   refine Nat.div_le_of_le_mul ?_
   rw [Nat.mul_comm, hv]; exact hu
  rw [et]; omega
 ·have hb : ((uv x).tdiv (U : Int)).natAbs ≤ m := by
   rw [Int.natAbs_tdiv, Int.natAbs_natCast]
   refine Nat.div_le_of_le_mul ?_
   rw [Nat.mul_comm, hv]; exact hu
  rw [et]; omega
theorem units53 : unitsOf 4845873199050653696 = 9007199254740992 * U := by
 have h := (wz_read (z := 9007199254740992) (by decide)).2.1
 rw [show wz 9007199254740992 = 4845873199050653696 by decide +kernel, uv_small (by omega)] at h
 generalize U = g at h ⊢
 omega
theorem units1024 : unitsOf 4652218415073722368 = 1024 * U := by
 have h := (wz_read (z := 1024) (by decide)).2.1
 rw [show wz 1024 = 4652218415073722368 by decide +kernel, uv_small (by omega)] at h
 generalize U = g at h ⊢
 omega
theorem cwhole2_any (x : Nat) (w : World) : Calls Tryz.prog 82 #[.float .f64 x] w (BRet (wholeB x) w) := by
 unfold wholeB
 cases h1 : isN x
 case true =>
  go_enter Tryz.func82, Tryz.ntmps82
  go_wp2_with (go_at_call 75; refine (isnan_any _ _).mono ?_; rintro e w' ⟨rfl, rfl⟩; rw [h1])
  go_ret
  exact ⟨0, rfl, rfl⟩
 cases h2 : finf (cn x)
 case true =>
  go_enter Tryz.func82, Tryz.ntmps82
  go_wp2_with (first | (go_at_call 75; refine (isnan_any _ _).mono ?_; rintro e w' ⟨rfl, rfl⟩; rw [h1]) | (go_at_call 77; refine (infinite_any _ _).mono ?_; rintro e w' ⟨rfl, rfl⟩; rw [h2]))
  go_ret
  exact ⟨0, rfl, rfl⟩
 obtain ⟨B, hB⟩ : ∃ B, (ford (ffloor (cn x)) x == some .eq) = B := ⟨_, rfl⟩
 rw [hB]
 have HB := qh hB
 clear hB
 go_enter Tryz.func82, Tryz.ntmps82
 go_wp2_with (first | (go_at_call 75; refine (isnan_any _ _).mono ?_; rintro e w' ⟨rfl, rfl⟩; rw [h1]) | (go_at_call 77; refine (infinite_any _ _).mono ?_; rintro e w' ⟨rfl, rfl⟩; rw [h2]) | (go_at_call 112; refine (floor_any _ _).mono ?_; rintro e w' ⟨r, n, rfl, hr, rfl⟩; have hq : (FloatKind.f64.format.order r x == some .eq) = B := (by rw [← HB.out, ← hr, ford_cn1]; rfl); clear hr))
 go_ret
 exact ⟨n, rfl, rfl⟩
theorem codd_any (x : Nat) (w : World) : Calls Tryz.prog 86 #[.float .f64 x] w (BRet (oddB x) w) := by
 unfold oddB
 cases h1 : wholeB x
 case false =>
  go_enter Tryz.func86, Tryz.ntmps86
  go_wp2_with (go_at_call 82; refine (cwhole2_any _ _).mono ?_; rintro e w' ⟨n, rfl, rfl⟩; rw [h1])
  go_ret
  exact ⟨_, rfl, rfl⟩
 have hl : (FloatKind.f64.format.order (x % top) 4845873199050653696 == some .lt) = absLt x 4845873199050653696 := rfl
 cases h2 : absLt x 4845873199050653696
 case false =>
  rw [h2] at hl
  go_enter Tryz.func86, Tryz.ntmps86
  go_wp2_with (first | (go_at_call 82; refine (cwhole2_any _ _).mono ?_; rintro e w' ⟨n, rfl, rfl⟩; rw [h1]) | (go_at_call 79; refine (abs_any _ _).mono ?_; rintro e w' ⟨rfl, rfl⟩))
  go_ret
  exact ⟨_, rfl, rfl⟩
 rw [h2] at hl
 obtain ⟨hf, hr⟩ := absLt_fin (by decide) h2
 obtain ⟨hc, b1, b2⟩ := toI_some (m := 9007199254740992) (by decide) units53 (by omega) hf (Nat.le_of_lt hr)
 obtain ⟨z, hz⟩ : ∃ z, z = toI x := ⟨_, rfl⟩
 rw [← hz] at hc b1 b2 ⊢
 have b3 : -9007199254740992 ≤ z := b1
 have b4 : z ≤ 9007199254740992 := b2
 have hcv := fun w' => run_convert_float_int (P := Tryz.prog) w' 32 2 .f64 .i64 x _ (by kernel_rfl) Tryz.underlying2 hc
 clear hf hr hz h2 b1 b2
 go_enter Tryz.func86, Tryz.ntmps86
 go_wp2_with (first | (go_at_call 82; refine (cwhole2_any _ _).mono ?_; rintro e w' ⟨n, rfl, rfl⟩; rw [h1]) | (go_at_call 79; refine (abs_any _ _).mono ?_; rintro e w' ⟨rfl, rfl⟩) | simp only [hcv])
 go_ret
 exact ⟨_, rfl, rfl⟩
theorem rwhole2_any (x : Nat) (w : World) : Calls Tryz.prog 133 #[.float .f64 x] w (BRet (wholeB x) w) := by
 unfold wholeB
 cases h1 : isN x
 case true =>
  go_enter Tryz.func133, Tryz.ntmps133
  go_wp2_with (go_at_call 126; refine (bad_any _ _).mono ?_; rintro e w' ⟨rfl, rfl⟩; rw [h1])
  go_ret
  exact ⟨0, rfl, rfl⟩
 cases h2 : finf (cn x)
 case true =>
  go_enter Tryz.func133, Tryz.ntmps133
  go_wp2_with (first | (go_at_call 126; refine (bad_any _ _).mono ?_; rintro e w' ⟨rfl, rfl⟩; rw [h1]) | (go_at_call 127; refine (endless_any _ _).mono ?_; rintro e w' ⟨rfl, rfl⟩; rw [h2]))
  go_ret
  exact ⟨0, rfl, rfl⟩
 obtain ⟨B, hB⟩ : ∃ B, (ford (ffloor (cn x)) x == some .eq) = B := ⟨_, rfl⟩
 rw [hB]
 have HB := qh hB
 clear hB
 go_enter Tryz.func133, Tryz.ntmps133
 go_wp2_with (first | (go_at_call 126; refine (bad_any _ _).mono ?_; rintro e w' ⟨rfl, rfl⟩; rw [h1]) | (go_at_call 127; refine (endless_any _ _).mono ?_; rintro e w' ⟨rfl, rfl⟩; rw [h2]) | (go_at_call 112; refine (floor_any _ _).mono ?_; rintro e w' ⟨r, n, rfl, hr, rfl⟩; have hq : (FloatKind.f64.format.order r x == some .eq) = B := (by rw [← HB.out, ← hr, ford_cn1]; rfl); clear hr))
 go_ret
 exact ⟨n, rfl, rfl⟩
theorem rodd_any (x : Nat) (w : World) : Calls Tryz.prog 136 #[.float .f64 x] w (BRet (oddB x) w) := by
 unfold oddB
 cases h1 : wholeB x
 case false =>
  go_enter Tryz.func136, Tryz.ntmps136
  go_wp2_with (go_at_call 133; refine (rwhole2_any _ _).mono ?_; rintro e w' ⟨n, rfl, rfl⟩; rw [h1])
  go_ret
  exact ⟨_, rfl, rfl⟩
 have hl : (FloatKind.f64.format.order (x % top) 4845873199050653696 == some .lt) = absLt x 4845873199050653696 := rfl
 cases h2 : absLt x 4845873199050653696
 case false =>
  rw [h2] at hl
  go_enter Tryz.func136, Tryz.ntmps136
  go_wp2_with (first | (go_at_call 133; refine (rwhole2_any _ _).mono ?_; rintro e w' ⟨n, rfl, rfl⟩; rw [h1]) | (go_at_call 79; refine (abs_any _ _).mono ?_; rintro e w' ⟨rfl, rfl⟩))
  go_ret
  exact ⟨_, rfl, rfl⟩
 rw [h2] at hl
 obtain ⟨hf, hr⟩ := absLt_fin (by decide) h2
 obtain ⟨hc, b1, b2⟩ := toI_some (m := 9007199254740992) (by decide) units53 (by omega) hf (Nat.le_of_lt hr)
 obtain ⟨z, hz⟩ : ∃ z, z = toI x := ⟨_, rfl⟩
 rw [← hz] at hc b1 b2 ⊢
 have b3 : -9007199254740992 ≤ z := b1
 have b4 : z ≤ 9007199254740992 := b2
 have hcv := fun w' => run_convert_float_int (P := Tryz.prog) w' 32 2 .f64 .i64 x _ (by kernel_rfl) Tryz.underlying2 hc
 clear hf hr hz h2 b1 b2
 go_enter Tryz.func136, Tryz.ntmps136
 go_wp2_with (first | (go_at_call 133; refine (rwhole2_any _ _).mono ?_; rintro e w' ⟨n, rfl, rfl⟩; rw [h1]) | (go_at_call 79; refine (abs_any _ _).mono ?_; rintro e w' ⟨rfl, rfl⟩) | simp only [hcv])
 go_ret
 exact ⟨_, rfl, rfl⟩
end Go.Proofs.YtmmfjknnbkcniaaGreatDoor
