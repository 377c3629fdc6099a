/- scaled and scale: a significand at a place. Logarithms: a number above zero as a significand near one times a power of two; the series; of classes. -/
import Derived.Test.YtmmfjknnbkcniaaGreatDoorV12
import Derived.Laws.BitsAllLaws
set_option maxHeartbeats 64000000
set_option maxRecDepth 100000
namespace Go.Proofs.YtmmfjknnbkcniaaGreatDoor
open Go.Fl Go.Rel Go.RowKit
set_option linter.unusedSimpArgs false
set_option linter.unusedVariables false
theorem and_2047 (S E low : Nat) (hS : S = E * 4503599627370496 + low) (hl : low < 4503599627370496) (hE : E ≤ 2046) : bits .and .u64 ((S : Int) / 4503599627370496) 2047 = (E : Int) := by
 have e : (S : Int) / 4503599627370496 = (E : Int) := by omega
 rw [e]
 have := u64_and_nat E 2047 (by omega) (by omega)
 rw [nat_mask11, Nat.mod_eq_of_lt (by omega)] at this
 exact this
theorem and_low (S E low : Nat) (hS : S = E * 4503599627370496 + low) (hl : low < 4503599627370496) (hE : E ≤ 2046) : bits .and .u64 (S : Int) 4503599627370495 = (low : Int) := by
 have := u64_and_nat S 4503599627370495 (by omega) (by omega)
 have e : S &&& 4503599627370495 = S % 4503599627370496 := Nat.and_two_pow_sub_one_eq_mod S 52
 rw [e, hS, show (E * 4503599627370496 + low) % 4503599627370496 = low by omega] at this
 rw [hS]
 exact this
theorem or_low (F low : Nat) (hl : low < 4503599627370496) (hF : F ≤ 2046) : bits .or .u64 ((F : Int) * 4503599627370496) (low : Int) = (F : Int) * 4503599627370496 + low := by
 have := u64_or_nat (F * 4503599627370496) low (by omega) (by omega)
 rw [nat_join 52 (F * 4503599627370496) low (by omega) (by omega)] at this
 rw [Int.natCast_add, Int.natCast_mul] at this
 exact this
theorem or_one (low : Nat) (hl : low < 4503599627370496) : bits .or .u64 (low : Int) 4503599627370496 = ((4503599627370496 + low : Nat) : Int) := by
 have := u64_or_nat low 4503599627370496 (by omega) (by omega)
 rw [Nat.or_comm, nat_join 52 4503599627370496 low (by decide) (by omega)] at this
 exact this
theorem scaled_any (S E low : Nat) (k : Int) (w : World) (hS : S = E * 4503599627370496 + low) (hl : low < 4503599627370496) (h1 : 1 ≤ E) (h2 : E ≤ 2046) (k1 : -5000 ≤ k) (k2 : k ≤ 5000) :
  Calls Tryz.prog 118 #[.float .f64 S, .int .i64 k] w fun e w' => e = .returned (.float .f64 (scW (4503599627370496 + low) ((E : Int) + k))) ∧ w = w' := by
 have hb := bits_run S
 have hb1 := and_2047 S E low hS hl h2
 have hb2 := and_low S E low hS hl h2
 obtain ⟨f, hf⟩ : ∃ f, (E : Int) + k = f := ⟨_, rfl⟩
 rw [hf]
 by_cases c1 : 2047 ≤ f
 ·have d1 : decide (2047 ≤ f) = true := decide_eq_true c1
  rw [scW_top c1]
  clear hS c1
  go_enter Tryz.func118, Tryz.ntmps118
  go_wp2_with (first | simp only [hb] | (go_at_call 110; refine (inf_up _).mono ?_; rintro e w' ⟨rfl, rfl⟩))
  go_ret
  exact ⟨rfl, rfl⟩
 have d1 : decide (2047 ≤ f) = false := decide_eq_false c1
 by_cases c2 : 1 ≤ f
 ·have d2 : decide (1 ≤ f) = true := decide_eq_true c2
  obtain ⟨F, rfl⟩ : ∃ F : Nat, f = (F : Int) := ⟨f.toNat, by omega⟩
  rw [scW_norm hl rfl (by omega) (by omega)]
  have hb3 := or_low F low hl (by omega)
  have hfr := frombits_run ((F : Int) * 4503599627370496 + low)
  rw [show ((F : Int) * 4503599627370496 + low).toNat = F * 4503599627370496 + low by omega] at hfr
  have F1 : (1 : Int) ≤ (F : Int) := by omega
  have F2 : (F : Int) ≤ 2046 := by omega
  clear hS c1 c2
  go_enter Tryz.func118, Tryz.ntmps118
  go_wp2_with (first | simp only [hb] | simp only [hfr])
  go_ret
  exact ⟨rfl, rfl⟩
 have d2 : decide (1 ≤ f) = false := decide_eq_false c2
 by_cases c3 : f < -53
 ·have d3 : decide (f < -53) = true := decide_eq_true c3
  rw [scW_none hl c3]
  clear hS c1 c2 c3
  go_enter Tryz.func118, Tryz.ntmps118
  go_wp2_with (first | simp only [hb])
  go_ret
  exact ⟨rfl, rfl⟩
 have d3 : decide (f < -53) = false := decide_eq_false c3
 obtain ⟨d, hd⟩ : ∃ d : Nat, 1 - f = (d : Int) := ⟨(1 - f).toNat, by omega⟩
 rw [scW_sub (d := d) hl (by omega) (by omega) (by omega)]
 have hb3 := or_one low hl
 obtain ⟨M, hM⟩ : ∃ M, M = 4503599627370496 + low := ⟨_, rfl⟩
 rw [← hM] at hb3 ⊢
 have hM2 : M < 9007199254740992 := by omega
 have hdd : d ≤ 54 := by omega
 have hd1 : 1 ≤ d := by omega
 have i1 : (1 : Int) ≤ (d : Int) := by omega
 have i2 : (d : Int) ≤ 54 := by omega
 obtain ⟨q, hq0⟩ : ∃ q, q = M / 2 ^ d := ⟨_, rfl⟩
 obtain ⟨rs, hrs0⟩ : ∃ rs, rs = M % 2 ^ d := ⟨_, rfl⟩
 obtain ⟨md, hmd0⟩ : ∃ md, md = 2 ^ (d - 1) := ⟨_, rfl⟩
 have hp54 : 2 ^ d ≤ 2 ^ 54 := Nat.pow_le_pow_right (by omega) hdd
 have hp53 : 2 ^ (d - 1) ≤ 2 ^ 53 := Nat.pow_le_pow_right (by omega) (by omega)
 have e54 : (2 : Nat) ^ 54 = 18014398509481984 := by decide
 have e53 : (2 : Nat) ^ 53 = 9007199254740992 := by decide
 have hq : (M : Int) / 2 ^ d = (q : Int) := by rw [hq0]; simp
 have hw0 : ((2 : Int) ^ d) = ((2 ^ d : Nat) : Int) := by simp
 have hp := Nat.two_pow_pos d
 have hr : bits .and .u64 (M : Int) (IntKind.u64.wrap (IntKind.u64.wrap (2 ^ d) - 1)) = (rs : Int) := by
  rw [hw0, show IntKind.u64.wrap ((2 ^ d : Nat) : Int) = ((2 ^ d : Nat) : Int) by rw [IntKind.wrap_u64]; omega, show ((2 ^ d : Nat) : Int) - 1 = ((2 ^ d - 1 : Nat) : Int) by omega,
   show IntKind.u64.wrap ((2 ^ d - 1 : Nat) : Int) = ((2 ^ d - 1 : Nat) : Int) by rw [IntKind.wrap_u64]; omega, u64_and_nat M (2 ^ d - 1) (by omega) (by omega), Nat.and_two_pow_sub_one_eq_mod, hrs0]
 have hm : IntKind.u64.wrap (2 ^ (d - 1)) = (md : Int) := by
  have : ((2 : Int) ^ (d - 1)) = ((2 ^ (d - 1) : Nat) : Int) := by simp
  rw [this, hmd0, IntKind.wrap_u64]; omega
 rw [← hq0, ← hrs0, ← hmd0]
 have hqb : q ≤ 9007199254740992 := by rw [hq0]; exact Nat.le_trans (Nat.div_le_self _ _) (by omega)
 have f0 := frombits_run (q : Int)
 have f1 := frombits_run ((q : Int) + 1)
 rw [Int.toNat_natCast] at f0
 rw [show ((q : Int) + 1).toNat = q + 1 by omega] at f1
 have q1 : (0 : Int) ≤ (q : Int) := by omega
 have q2 : (q : Int) ≤ 9007199254740992 := by omega
 clear hS c1 c2 c3 hM hM2 hp54 hp53 e54 e53 hw0 hp hq0 hrs0 hmd0 hdd hd1
 by_cases g1 : md < rs
 ·have d4 : decide (md < rs) = true := decide_eq_true g1
  rw [decide_eq_true g1]
  clear g1
  go_enter Tryz.func118, Tryz.ntmps118
  go_wp2_with (first | simp only [hb] | simp only [f1])
  go_ret
  exact ⟨rfl, rfl⟩
 ·have d4 : decide (md < rs) = false := decide_eq_false g1
  rw [decide_eq_false g1]
  by_cases g2 : rs = md
  ·have d5 : ((rs : Int) == (md : Int)) = true := by simp; omega
   by_cases g3 : q % 2 = 1
   ·have d6 : ((q : Int) % 2 == 1) = true := by simp; omega
    have e0 : (rs == md && q % 2 == 1) = true := by rw [g2, g3]; simp
    rw [e0]
    clear g1 g2 g3 e0
    go_enter Tryz.func118, Tryz.ntmps118
    go_wp2_with (first | simp only [hb] | simp only [f1])
    go_ret
    exact ⟨rfl, rfl⟩
   ·have d6 : ((q : Int) % 2 == 1) = false := by simp; omega
    have e0 : (rs == md && q % 2 == 1) = false := by simp [g3]
    rw [e0]
    clear g1 g2 g3 e0
    go_enter Tryz.func118, Tryz.ntmps118
    go_wp2_with (first | simp only [hb] | simp only [f0])
    go_ret
    exact ⟨rfl, rfl⟩
  ·have d5 : ((rs : Int) == (md : Int)) = false := by simp; omega
   have e0 : (rs == md && q % 2 == 1) = false := by simp [g2]
   rw [e0]
   clear g1 g2 e0
   go_enter Tryz.func118, Tryz.ntmps118
   go_wp2_with (first | simp only [hb] | simp only [f0])
   go_ret
   exact ⟨rfl, rfl⟩
theorem notN_small {x : Nat} (h : x < 9218868437227405312) : cn x = x := cn_of_notN (isF_notN (isF_small h))
theorem scW_notN (M : Nat) (e : Int) : cn (scW M e) = scW M e := cn_of_notN (write_not_nan (.number false M (e - 1075)) rfl)
def ScRel (w : World) (E low : Nat) (k : Int) (v0 v1 : Value) (wr : World) : Prop :=
 ∃ (E' : Nat) (k' : Int) (m : Nat), v0 = .float .f64 (E' * 4503599627370496 + low) ∧ v1 = .int .i64 k' ∧ wr = w.drewN m ∧ (E' : Int) + k' = (E : Int) + k ∧ (k' = k ∨ 900 < k') ∧ k' ≤ k
theorem scale_any (S E low : Nat) (k : Int) (w : World) (hS : S = E * 4503599627370496 + low) (hl : low < 4503599627370496) (h1 : 1000 ≤ E) (h2 : E ≤ 1030) (k1 : -1090 ≤ k) (k2 : k ≤ 1090) :
  Calls Tryz.prog 151 #[.float .f64 S, .int .i64 k] w (FRet (scW (4503599627370496 + low) ((E : Int) + k)) w) := by
 have hS2 := qh hS
 subst hS
 have HL := qh hl
 go_enter Tryz.func151, Tryz.ntmps151
 go_wp2_with fail
 go_loopw [0, 1] (ScRel w E low k) (fun _ v _ => (intOf v).toNat)
 case atStart => exact ⟨E, k, 0, rfl, rfl, rfl, rfl, .inl rfl, Int.le_refl _⟩
 case round =>
  obtain ⟨E', k', m, rfl, rfl, rfl, he, hk, hkk⟩ := hrel
  have hE1 : 1 ≤ E' := by omega
  have hE2 : E' ≤ 1300 := by omega
  have hc := notN_small (x := E' * 4503599627370496 + low) (by omega)
  have HC := qh hc
  have HE := qh he
  by_cases c : 1000 < k'
  ·have d1 : decide (1000 < k') = true := decide_eq_true c
   have hmul := fmul_pow2 (E := E') (low := low) (J := 1123) hl hE1 (by omega) (by omega) (by omega)
   rw [show (E' : Int) + ((1123 : Nat) : Int) - 1023 = ((E' + 100 : Nat) : Int) by omega, scW_norm hl rfl (by omega) (by omega)] at hmul
   have HM := qh hmul
   have hcp : cn 5057542381537067008 = 5057542381537067008 := by decide +kernel
   have HCP := qh hcp
   clear hc he hmul hcp hl
   go_wp2_with (first | (go_at_call 147; refine (rbits_any _ _).mono ?_; rintro e w' ⟨rfl, rfl⟩) | (refine wpList_fop _ _ _ _ _ _ _ rfl rfl rfl ?_; intro r nq hr; have HR := qh hr; clear hr))
   have hr2 : r = (E' + 100) * 4503599627370496 + low := by
    refine eq_of_cn (c := (E' + 100) * 4503599627370496 + low) ?_ (isF_notN (isF_small (by have := HL.out; omega)))
    rw [HR.out, HC.out, show cn _ = _ from HCP.out]
    exact HM.out
   subst hr2
   go_roundw
   case rel => exact ⟨E' + 100, k' - 100, _, rfl, rfl, rfl, by have := HE.out; omega, .inr (by omega), by omega⟩
   case measure => simp [intOf]; omega
  ·have d1 : decide (1000 < k') = false := decide_eq_false c
   by_cases c2 : -1000 ≤ k'
   ·have d2 : decide (-1000 ≤ k') = true := decide_eq_true c2
    obtain ⟨J, hJ⟩ : ∃ J : Nat, (J : Int) = 1023 + k' := ⟨(1023 + k').toNat, by omega⟩
    have hmul := fmul_pow2 (E := E') (low := low) (J := J) hl hE1 (by omega) (by omega) (by omega)
    rw [show (E' : Int) + (J : Int) - 1023 = (E : Int) + k by omega] at hmul
    have HM := qh hmul
    have hn : ((1023 + k') * 4503599627370496).toNat = J * 4503599627370496 := by omega
    have hcp : cn (J * 4503599627370496) = J * 4503599627370496 := notN_small (by omega)
    have HCP := qh hcp
    have u1 : 23 ≤ k' + 1023 := by omega
    have u2 : k' + 1023 ≤ 2023 := by omega
    have hJ' := qh hJ
    have HN := qh hn
    clear hc he hmul hcp hl hJ hn
    go_wp2_with (first | (go_at_call 147; refine (rbits_any _ _).mono ?_; rintro e w' ⟨rfl, rfl⟩; rw [HN.out]) | (refine wpList_fop _ _ _ _ _ _ _ rfl rfl rfl ?_; intro r nq hr; have HR := qh hr; clear hr))
    go_ret
    exact ⟨_, _, rfl, by rw [HR.out, HC.out, HCP.out]; exact HM.out, by simp only [World.drewN_drewN]; rfl⟩
   ·have d2 : decide (-1000 ≤ k') = false := decide_eq_false c2
    have hkk' : k' = k := by omega
    subst hkk'
    have hEE : E' = E := by omega
    subst hEE
    have hm1 := fmul_pow2 (E := E') (low := low) (J := 123) hl hE1 (by omega) (by omega) (by omega)
    rw [show (E' : Int) + ((123 : Nat) : Int) - 1023 = ((E' - 900 : Nat) : Int) by omega, scW_norm hl rfl (by omega) (by omega)] at hm1
    have HM1 := qh hm1
    obtain ⟨J, hJ⟩ : ∃ J : Nat, (J : Int) = 1023 + k' + 900 := ⟨(1023 + k' + 900).toNat, by omega⟩
    have hmul := fmul_pow2 (E := E' - 900) (low := low) (J := J) hl (by omega) (by omega) (by omega) (by omega)
    rw [show ((E' - 900 : Nat) : Int) + (J : Int) - 1023 = (E' : Int) + k' by omega] at hmul
    have HM := qh hmul
    have hn : ((1023 + k' + 900) * 4503599627370496).toNat = J * 4503599627370496 := by omega
    have hcp : cn (J * 4503599627370496) = J * 4503599627370496 := notN_small (by omega)
    have HCP := qh hcp
    have hcp2 : cn 553942754166571008 = 553942754166571008 := by decide +kernel
    have HCP2 := qh hcp2
    have HC2 := qh (notN_small (x := (E' - 900) * 4503599627370496 + low) (by omega))
    have u1 : 23 ≤ 1023 + k' + 900 := by omega
    have u2 : 1023 + k' + 900 ≤ 2023 := by omega
    have u3 : -500 ≤ 1023 + k' := by omega
    have u4 : 1023 + k' ≤ 500 := by omega
    have HN := qh hn
    clear hc he hmul hcp hl hJ hn hm1 hcp2
    go_wp2_with (first | (go_at_call 147; refine (rbits_any _ _).mono ?_; rintro e w' ⟨rfl, rfl⟩; rw [HN.out]) | (go_at_call 147; refine (rbits_any _ _).mono ?_; rintro e w' ⟨rfl, rfl⟩) | (refine wpList_fop _ _ _ _ _ _ _ rfl rfl rfl ?_; intro r nq hr; have HR := qh hr; clear hr))
    go_ret
    rename_i r0 n0 HR0
    have h0 : cn r0 = (E' - 900) * 4503599627370496 + low := by
     rw [HR0.out, HC.out, show cn _ = _ from HCP2.out]
     exact HM1.out
    exact ⟨_, _, rfl, by rw [HR.out, h0, HCP.out]; exact HM.out, by simp only [World.drewN_drewN]; rfl⟩
end Go.Proofs.YtmmfjknnbkcniaaGreatDoor
namespace Go.Fl
open Ieee
def cHalf : Nat := 4604544271217802189
def cTwo : Nat := 4611686018427387904
def dbl (x : Nat) : Nat := if x < 4503599627370496 then 2 * x else x + 4503599627370496
def hlf (x : Nat) : Nat := x - 4503599627370496
theorem units_dbl (x : Nat) : unitsOf (dbl x) = 2 * unitsOf x := by
 unfold dbl
 by_cases h : x < 4503599627370496
 ·rw [if_pos h]
  have e1 : unitsOf x = x := by unfold unitsOf; rw [if_pos h]
  rw [e1]
  unfold unitsOf
  by_cases h2 : 2 * x < 4503599627370496
  ·rw [if_pos h2]
  ·rw [if_neg h2, show 2 * x / 4503599627370496 - 1 = 0 by omega, Nat.pow_zero]; omega
 ·rw [if_neg h]
  unfold unitsOf
  rw [if_neg (by omega), if_neg h, show (x + 4503599627370496) % 4503599627370496 = x % 4503599627370496 by omega, show (x + 4503599627370496) / 4503599627370496 - 1 = (x / 4503599627370496 - 1) + 1 by omega, Nat.pow_succ]
  generalize 2 ^ (x / 4503599627370496 - 1) = g
  rw [← Nat.mul_assoc, Nat.mul_comm]
theorem units_hlf {x : Nat} (h : 9007199254740992 ≤ x) : 2 * unitsOf (hlf x) = unitsOf x := by
 rw [← units_dbl]
 unfold dbl hlf
 rw [if_neg (by omega)]
 congr 1
 omega
theorem nearest_small {r : Nat} (h : r < 9218868437227405312) : double.nearest false (unitsOf r) (-1074) = r := by
 rw [nearest_units false h, word_eq]; rfl
theorem units_two : unitsOf cTwo = 2 * 2 ^ K := by
 have h := (fv_wz (z := 2) (by decide)).2
 have e : cTwo = wz 2 := by decide +kernel
 have hw := (wz_read (z := 2) (by decide)).2.1
 rw [← e] at hw
 have hu : uv cTwo = (unitsOf cTwo : Int) := by unfold uv; rw [sgn_small (by decide), rung_small (by decide)]; rfl
 rw [hu] at hw
 have : ((U : Nat) : Int) = ((2 ^ K : Nat) : Int) := rfl
 rw [this] at hw
 generalize 2 ^ K = g at *
 omega
theorem fmul_two {x : Nat} (h : dbl x < 9218868437227405312) (hx : x < 9218868437227405312) : fmul x cTwo = dbl x := by
 rw [mul_fin (isF_small hx) (isF_small (by decide)), sgn_small (by omega), sgn_small (by decide), rung_small (by omega), rung_small (by decide), ← nearest_word, units_two]
 have e : unitsOf x * (2 * 2 ^ K) = unitsOf (dbl x) <<< K := by
  rw [units_dbl, Nat.shiftLeft_eq]
  generalize 2 ^ K = g
  ac_rfl
 rw [e, nearest_scale, show (-1074 - (K : Int) + (K : Int)) = -1074 by omega]
 exact nearest_small h
theorem fv_small {x : Nat} (h : x < 9218868437227405312) : fv x = nq (unitsOf x) / Uq := by
 rw [fv_fa, sgn_small (by omega)]; unfold fa; rw [rung_small (by omega)]; rfl
theorem fdiv_two {x : Nat} (h : 9007199254740992 ≤ x) (hx : x < 9218868437227405312) : fdiv x cTwo = hlf x := by
 have f2 : isF cTwo := isF_small (by decide)
 have fx := isF_small hx
 have e2 : cTwo = wz 2 := by decide +kernel
 have v2 : fv cTwo = 2 := by rw [e2]; exact (fv_wz (z := 2) (by decide)).2
 have u2 : uv cTwo ≠ 0 := fun h => by
  have : fv cTwo = 0 := by unfold fv; rw [h]; grind
  grind
 have hd := div_rd fx f2 u2
 rw [v2] at hd
 have hh : hlf x < 9218868437227405312 := by unfold hlf; omega
 have fh := isF_small hh
 have hv : fv (hlf x) = fv x / 2 := by
  rw [fv_small hh, fv_small hx, ← units_hlf h, nq_mul]
  have : nq 2 = 2 := rfl
  rw [this]; grind
 have fr : isF (fdiv x cTwo) := hd.fin _ _ fh fh (by rw [hv]; exact Rat.le_refl) (by rw [hv]; exact Rat.le_refl)
 have a := hd.ge _ fh fr (by rw [hv]; exact Rat.le_refl)
 have b := hd.le _ fh fr (by rw [hv]; exact Rat.le_refl)
 have huv : uv (fdiv x cTwo) = uv (hlf x) := Int.le_antisymm (fv_le.1 b) (fv_le.1 a)
 obtain ⟨m, n, p, q, _, _, _, _, hw⟩ := div_fin fx f2 u2
 rw [sgn_small (x := x) (by omega), sgn_small (x := cTwo) (by decide)] at hw
 generalize (2 * (m * 2 ^ (54 + n.log2 - m.log2) / n) + (m * 2 ^ (54 + n.log2 - m.log2) % n != 0).toNat) * 2 ^ (p + K) = A at hw
 generalize 54 + n.log2 - m.log2 + 1 + q = D at hw
 have ht := nrung_top A D
 have hw2 : fdiv x cTwo = nrung A D := by rw [hw, word_eq]; rfl
 rw [hw2] at fr huv ⊢
 have h1 : uv (nrung A D) = (unitsOf (nrung A D) : Int) := by unfold uv; rw [sgn_small (by omega), rung_small (by omega)]; rfl
 have h2 : uv (hlf x) = (unitsOf (hlf x) : Int) := by unfold uv; rw [sgn_small (by omega), rung_small (by omega)]; rfl
 rw [h1, h2] at huv
 exact unitsOf_inj (by omega)
def LP (x m : Nat) (e : Int) : Prop := cHalf ≤ m ∧ m < dbl cHalf ∧ ∃ c d : Nat, unitsOf m * 2 ^ d = unitsOf x * 2 ^ c ∧ e = (d : Int) - (c : Int)
theorem lp_one {x m m' : Nat} {e e' : Int} (h : LP x m e) (h' : LP x m' e') : m = m' ∧ e = e' := by
 obtain ⟨a1, a2, c, d, hcd, rfl⟩ := h
 obtain ⟨b1, b2, c', d', hcd', rfl⟩ := h'
 have key : unitsOf m * 2 ^ (d + c') = unitsOf m' * 2 ^ (d' + c) := by
  rw [Nat.pow_add, Nat.pow_add, ← Nat.mul_assoc, ← Nat.mul_assoc, hcd, hcd']
  generalize 2 ^ c = p
  generalize 2 ^ c' = q
  ac_rfl
 have far : ∀ {m m' k l : Nat}, cHalf ≤ m → m' < dbl cHalf → unitsOf m * 2 ^ k = unitsOf m' * 2 ^ l → l < k → False := fun {m m' k l} h1 h2 h3 h4 => by
  have e1 : 2 ^ k = 2 ^ (k - l - 1) * 2 * 2 ^ l := by rw [← Nat.pow_succ, ← Nat.pow_add]; congr 1; omega
  have hp := Nat.two_pow_pos l
  have hp2 := Nat.two_pow_pos (k - l - 1)
  rw [e1, ← Nat.mul_assoc] at h3
  have h5 := Nat.eq_of_mul_eq_mul_right hp h3
  have u1 := unitsOf_le h1
  have u2 := unitsOf_lt h2
  rw [units_dbl] at u2
  have : unitsOf m * 2 ≤ unitsOf m * (2 ^ (k - l - 1) * 2) := Nat.mul_le_mul_left _ (by omega)
  omega
 have hd : d + c' = d' + c := by
  rcases Nat.lt_trichotomy (d + c') (d' + c) with h | h | h
  ·exact (far b1 a2 key.symm h).elim
  ·exact h
  ·exact (far a1 b2 key h).elim
 rw [hd] at key
 have := Nat.eq_of_mul_eq_mul_right (Nat.two_pow_pos _) key
 exact ⟨unitsOf_inj this, by omega⟩
def serP (z : Nat) : Nat → Nat
 | 0 => 0
 | j + 1 => fmul z (fadd (fdiv w1 (wz (2 * (12 - (j : Int)) + 1))) (serP z j))
def lnS0 (m : Nat) : Nat := fdiv (fsub m w1) (fadd cTwo (fsub m w1))
def lnSer (m : Nat) : Nat := fadd (fmul cTwo (lnS0 m)) (fmul (fmul cTwo (lnS0 m)) (serP (fmul (lnS0 m) (lnS0 m)) 12))
def lnV (m : Nat) (e : Int) : Nat := fadd (fmul (wz e) cHi) (fadd (lnSer m) (fmul (wz e) cLo))
def lnEdge (x : Nat) : Option Nat := if isN x = true then some nanc else if (ford x 0 == some .lt) = true then some nanc else if (ford x 0 == some .eq) = true then some ninf else if (ford x pinf == some .eq) = true then some pinf else none
theorem lnEdge_none {x : Nat} (h : lnEdge x = none) (h64 : x < 18446744073709551616) : 0 < x ∧ x < 9218868437227405312 := by
 unfold lnEdge at h
 split at h
 ·cases h
 rename_i h1
 split at h
 ·cases h
 rename_i h2
 split at h
 ·cases h
 rename_i h3
 split at h
 ·cases h
 rename_i h4
 have hx : isN x = false := by simpa using h1
 have n0 : isN 0 = false := by decide +kernel
 have np : isN pinf = false := by decide +kernel
 rw [ford_pl hx n0] at h2 h3
 rw [ford_pl hx np] at h4
 have p0 : pl 0 = 0 := by decide +kernel
 have pp : pl pinf = 9218868437227405312 := by decide +kernel
 rw [p0] at h2 h3
 rw [pp] at h4
 have b := pl_notN hx
 have kc : ∀ z : Int, compare z z = .eq := fun z => Std.ReflCmp.compare_self
 have g1 : 0 < pl x := by
  rcases Int.lt_trichotomy (pl x) 0 with g | g | g
  ·rw [Std.compare_eq_lt.2 g] at h2; simp at h2
  ·rw [g, kc] at h3; simp at h3
  ·exact g
 have g2 : pl x ≠ 9218868437227405312 := fun g => by rw [g, kc] at h4; simp at h4
 unfold pl at g1 g2 b
 rw [hx] at g1 g2 b
 simp only [Bool.false_eq_true, if_false] at g1 g2 b
 have hr : rung x = x % 9223372036854775808 := rfl
 cases hs : sgn x
 ·rw [hs] at g1 g2 b
  simp only [Bool.false_eq_true, if_false] at g1 g2 b
  unfold sgn at hs
  simp at hs
  omega
 ·rw [hs] at g1
  simp only [if_true] at g1
  omega
theorem sub_scale {x : Nat} (h0 : 0 < x) (h1 : x < 4503599627370496) : ∃ E low, fmul x 4850376798678024192 = E * 4503599627370496 + low ∧ low < 4503599627370496 ∧ 3 ≤ E ∧ E ≤ 54 ∧ unitsOf (E * 4503599627370496 + low) = x * 2 ^ 54 := by
 have hx0 : x ≠ 0 := by omega
 obtain ⟨L, hL⟩ : ∃ L, L = x.log2 := ⟨_, rfl⟩
 have l1 : 2 ^ L ≤ x := by rw [hL]; exact Nat.log2_self_le hx0
 have l2 : x < 2 ^ (L + 1) := by rw [hL]; exact Nat.lt_log2_self
 have l3 : L < 52 := by rw [hL]; exact (Nat.log2_lt hx0).2 h1
 have e52 : (2 : Nat) ^ 52 = 4503599627370496 := by decide
 have p1 : 2 ^ L * 2 ^ (52 - L) = 4503599627370496 := by rw [← Nat.pow_add, show L + (52 - L) = 52 by omega]
 have p2 : 2 ^ (L + 1) * 2 ^ (52 - L) = 9007199254740992 := by rw [← Nat.pow_add, show L + 1 + (52 - L) = 53 by omega]
 have hp := Nat.two_pow_pos (52 - L)
 have m1 : 2 ^ L * 2 ^ (52 - L) ≤ x * 2 ^ (52 - L) := Nat.mul_le_mul_right _ l1
 have m2 : x * 2 ^ (52 - L) < 2 ^ (L + 1) * 2 ^ (52 - L) := Nat.mul_lt_mul_of_pos_right l2 hp
 rw [p1] at m1
 rw [p2] at m2
 obtain ⟨low, hlow⟩ : ∃ low, x * 2 ^ (52 - L) = 4503599627370496 + low := ⟨x * 2 ^ (52 - L) - 4503599627370496, by omega⟩
 have hl : low < 4503599627370496 := by omega
 have hu : unitsOf x = x := by unfold unitsOf; rw [if_pos h1]
 obtain ⟨J, hJ⟩ : ∃ J : Nat, J = 1077 := ⟨_, rfl⟩
 have hub := units_norm (E := J) (low := 0) (by omega) (by omega)
 have hJB : 4850376798678024192 = J * 4503599627370496 := by omega
 rw [Nat.add_zero, Nat.add_zero, ← hJB] at hub
 have hplace : -1074 - (K : Int) + ((52 + (J - 1) : Nat) : Int) = -1020 := by rw [K_eq]; omega
 have hplace2 : ((3 + L : Nat) : Int) - 1075 + ((52 - L : Nat) : Int) = -1020 := by omega
 clear hJ hJB
 generalize J - 1 = T at *
 have hmul : fmul x 4850376798678024192 = scW (4503599627370496 + low) ((3 + L : Nat) : Int) := by
  rw [mul_fin (isF_small (by omega)) (isF_small (by decide)), sgn_small (by omega), sgn_small (by decide), rung_small (by omega), rung_small (by decide), ← nearest_word, hu, hub]
  have e1 : x * (4503599627370496 * 2 ^ T) = x <<< (52 + T) := by
   rw [Nat.shiftLeft_eq, Nat.pow_add, e52]
  rw [e1, nearest_scale, hplace]
  unfold scW
  rw [← hlow, ← Nat.shiftLeft_eq, nearest_scale, hplace2]
  rfl
 clear hub hu
 refine ⟨3 + L, low, ?_, hl, by omega, by omega, ?_⟩
 ·rw [hmul, scW_norm hl rfl (by omega) (by omega)]
 ·rw [units_norm (by omega) hl, ← hlow, Nat.mul_assoc, ← Nat.pow_add]
  congr 2
  omega
theorem cn_small {x : Nat} (h : x < 9218868437227405312) : cn x = x := cn_of_notN (isF_notN (isF_small h))
theorem ford_small {x y : Nat} (hx : x ≤ 9218868437227405311) (hy : y ≤ 9218868437227405311) : ford x y = some (compare (x : Int) (y : Int)) := by
 have nx := isF_notN (isF_small (x := x) (by omega))
 have ny := isF_notN (isF_small (x := y) (by omega))
 rw [ford_pl nx ny]
 unfold pl
 rw [nx, ny, sgn_small (by omega), sgn_small (by omega), rung_small (by omega), rung_small (by omega)]
 rfl
theorem flt_small {x y : Nat} (hx : x ≤ 9218868437227405311) (hy : y ≤ 9218868437227405311) : (ford x y == some .lt) = decide (x < y) := by
 rw [ford_small hx hy]
 have kc : ∀ z : Int, compare z z = .eq := fun z => Std.ReflCmp.compare_self
 rcases Nat.lt_trichotomy x y with h | h | h
 ·rw [Std.compare_eq_lt.2 (show (x : Int) < y by omega)]; simp [h]
 ·subst h; rw [kc]; simp
 ·rw [Std.compare_eq_gt.2 (show (y : Int) < x by omega)]; simp; omega
theorem fge_small {x y : Nat} (hx : x ≤ 9218868437227405311) (hy : y ≤ 9218868437227405311) : (ford x y == some .gt || ford x y == some .eq) = decide (y ≤ x) := by
 rw [ford_small hx hy]
 have kc : ∀ z : Int, compare z z = .eq := fun z => Std.ReflCmp.compare_self
 rcases Nat.lt_trichotomy x y with h | h | h
 ·rw [Std.compare_eq_lt.2 (show (x : Int) < y by omega)]; simp; omega
 ·subst h; rw [kc]; simp
 ·rw [Std.compare_eq_gt.2 (show (y : Int) < x by omega)]; simp; omega
theorem dbl_half : dbl cHalf = 4609047870845172685 := by decide
theorem lp_norm {x Y E low c : Nat} (hY : Y = E * 4503599627370496 + low) (hl : low < 4503599627370496) (h1 : 1 ≤ E) (hu : unitsOf Y = unitsOf x * 2 ^ c) :
  (1023 * 4503599627370496 + low < dbl cHalf → LP x (1023 * 4503599627370496 + low) ((E : Int) - 1023 - c)) ∧ (dbl cHalf ≤ 1023 * 4503599627370496 + low → LP x (hlf (1023 * 4503599627370496 + low)) ((E : Int) - 1023 - c + 1)) := by
 obtain ⟨J, hJ⟩ : ∃ J : Nat, J = 1023 := ⟨_, rfl⟩
 have u0 := units_norm (E := J) (low := low) (by omega) hl
 have uY := units_norm (E := E) (low := low) h1 hl
 rw [← hY, hu] at uY
 have hd : cHalf = 4604544271217802189 := rfl
 have e1 : (E : Int) - 1023 - c = ((E - 1 : Nat) : Int) - ((c + (J - 1) : Nat) : Int) := by omega
 have e2 : (E : Int) - 1023 - c + 1 = ((E : Nat) : Int) - ((c + (J - 1) : Nat) : Int) := by omega
 have hJ0 : 1023 * 4503599627370496 + low = J * 4503599627370496 + low := by rw [hJ]
 rw [← hJ0] at u0
 clear hJ0 hJ
 generalize J - 1 = T at *
 have key : unitsOf (1023 * 4503599627370496 + low) * 2 ^ (E - 1) = unitsOf x * 2 ^ (c + T) := by
  rw [u0, Nat.pow_add, ← Nat.mul_assoc, uY]
  generalize 2 ^ (E - 1) = p
  generalize 2 ^ T = q
  ac_rfl
 clear u0 uY
 constructor
 ·intro h
  exact ⟨by omega, h, c + T, E - 1, key, e1⟩
 ·intro h
  rw [dbl_half] at h
  refine ⟨by unfold hlf; omega, by rw [dbl_half]; unfold hlf; omega, c + T, E, ?_, e2⟩
  have hpe : 2 ^ E = 2 * 2 ^ (E - 1) := by
   clear key e1 e2 hu hd hY h
   rw [← Nat.pow_succ']; congr 1; omega
  have h3 : 9007199254740992 ≤ 1023 * 4503599627370496 + low := by omega
  have h2 := units_hlf h3
  rw [← key, ← h2, hpe]
  generalize unitsOf (hlf (1023 * 4503599627370496 + low)) = q
  generalize 2 ^ (E - 1) = p
  ac_rfl
end Go.Fl
