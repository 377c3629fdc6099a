/- Small functions: IsNaN, Inf, the orders of floats. Floats times powers of two; a significand at a place, rounded once. The exponential's steps: the part that is left is small, the series lies between 1/4 and 7/4. Half the square root of two; words as numbers: on both sides. -/
import Derived.Test.YtmmfjknnbkcniaaGreatDoorV10
import Derived.Test.YtmmfjknnbkcniaaGreatDoorV11
set_option maxHeartbeats 64000000
set_option maxRecDepth 100000
namespace Go.Proofs.YtmmfjknnbkcniaaGreatDoor
open Go.Fl Go.Rel Go.RowKit
theorem cn_pinf : cn pinf = pinf := by decide +kernel
theorem cn_ninf : cn ninf = ninf := by decide +kernel
theorem isnan_any (x : Nat) (w : World) : Calls Tryz.prog 75 #[.float .f64 x] w fun e w' => e = .returned (.bool (isN x)) ∧ w = w' := by
 have hx : (FloatKind.f64.format.order x x != some .eq) = isN x := ne_self x
 go_enter Tryz.func75, Tryz.ntmps75
 go_wp2
 go_ret
 exact ⟨rfl, rfl⟩
theorem bad_any (x : Nat) (w : World) : Calls Tryz.prog 126 #[.float .f64 x] w fun e w' => e = .returned (.bool (isN x)) ∧ w = w' := by
 have hx : (FloatKind.f64.format.order x x != some .eq) = isN x := ne_self x
 go_enter Tryz.func126, Tryz.ntmps126
 go_wp2
 go_ret
 exact ⟨rfl, rfl⟩
theorem inf_up (w : World) : Calls Tryz.prog 110 #[.int .i64 1] w fun e w' => e = .returned (.float .f64 pinf) ∧ w = w' := by
 have hr := frombits_run 9218868437227405312 w
 go_enter Tryz.func110, Tryz.ntmps110
 go_wp2_with (simp only [hr])
 go_ret
 exact ⟨rfl, rfl⟩
theorem inf_down (w : World) : Calls Tryz.prog 110 #[.int .i64 (-1)] w fun e w' => e = .returned (.float .f64 ninf) ∧ w = w' := by
 have hr := frombits_run 18442240474082181120 w
 go_enter Tryz.func110, Tryz.ntmps110
 go_wp2_with (simp only [hr])
 go_ret
 exact ⟨rfl, rfl⟩
theorem rinf_up (w : World) : Calls Tryz.prog 146 #[.int .i64 1] w fun e w' => e = .returned (.float .f64 pinf) ∧ w = w' := by
 go_enter Tryz.func146, Tryz.ntmps146
 go_wp2_with (go_at_call 110; refine (inf_up _).mono ?_; rintro e w' ⟨rfl, rfl⟩)
 go_ret
 exact ⟨rfl, rfl⟩
theorem rinf_down (w : World) : Calls Tryz.prog 146 #[.int .i64 (-1)] w fun e w' => e = .returned (.float .f64 ninf) ∧ w = w' := by
 go_enter Tryz.func146, Tryz.ntmps146
 go_wp2_with (go_at_call 110; refine (inf_down _).mono ?_; rintro e w' ⟨rfl, rfl⟩)
 go_ret
 exact ⟨rfl, rfl⟩
def W64 (x : Nat) : Prop := cn x < 18446744073709551616
end Go.Proofs.YtmmfjknnbkcniaaGreatDoor
namespace Go.Fl
open Ieee
def scW (M : Nat) (e : Int) : Nat := double.nearest false M (e - 1075)
theorem units_norm {E low : Nat} (hE : 1 ≤ E) (hl : low < 4503599627370496) : unitsOf (E * 4503599627370496 + low) = (4503599627370496 + low) * 2 ^ (E - 1) := by
 unfold unitsOf
 rw [if_neg (by omega), show (E * 4503599627370496 + low) % 4503599627370496 = low by omega, show (E * 4503599627370496 + low) / 4503599627370496 = E by omega]
theorem scW_norm {low E : Nat} {e : Int} (hl : low < 4503599627370496) (he : e = (E : Int)) (h1 : 1 ≤ E) (h2 : E ≤ 2046) : scW (4503599627370496 + low) e = E * 4503599627370496 + low := by
 have hr : E * 4503599627370496 + low < 9218868437227405312 := by omega
 have h := nearest_units false hr
 rw [units_norm h1 hl, ← Nat.shiftLeft_eq, nearest_scale] at h
 unfold scW
 rw [he, show (E : Int) - 1075 = -1074 + ((E - 1 : Nat) : Int) by omega, h, word_eq]; rfl
theorem scW_top {low : Nat} {e : Int} (he : 2047 ≤ e) : scW (4503599627370496 + low) e = 9218868437227405312 := by
 unfold scW
 obtain ⟨t, ht⟩ : ∃ t : Nat, e = 2047 + (t : Int) := ⟨(e - 2047).toNat, by omega⟩
 obtain ⟨T, hT⟩ : ∃ T : Nat, T = 2046 := ⟨_, rfl⟩
 rw [show e - 1075 = -1074 - ((0 : Nat) : Int) + ((T + t : Nat) : Int) by omega, ← nearest_scale, nearest_word]
 have hu : unitsOf (T * 4503599627370496 + 4503599627370496) = 4503599627370496 * 2 ^ T := units_at (by omega) (by omega)
 have hle : 9218868437227405312 ≤ nrung ((4503599627370496 + low) <<< (T + t)) 0 := by
  refine le_nrung (Nat.le_refl _) ?_
  rw [show (9218868437227405312 : Nat) = T * 4503599627370496 + 4503599627370496 by omega, hu, Nat.shiftLeft_eq, Nat.pow_add]
  generalize 2 ^ T = g
  have := Nat.two_pow_pos t
  rw [Nat.pow_zero, Nat.mul_one]
  have h1 : 4503599627370496 * g ≤ (4503599627370496 + low) * g := Nat.mul_le_mul_right _ (by omega)
  have h2 : (4503599627370496 + low) * g * 1 ≤ (4503599627370496 + low) * g * 2 ^ t := Nat.mul_le_mul_left _ this
  rw [Nat.mul_assoc] at h2
  rw [← Nat.mul_assoc]
  rw [← Nat.mul_assoc] at h2
  omega
 have := nrung_top ((4503599627370496 + low) <<< (T + t)) 0
 rw [Nat.le_antisymm this hle, word_eq]; rfl
theorem scW_none {low : Nat} {e : Int} (hl : low < 4503599627370496) (he : e < -53) : scW (4503599627370496 + low) e = 0 := by
 unfold scW
 obtain ⟨d, hd⟩ : ∃ d : Nat, e = 1 - (d : Int) := ⟨(1 - e).toNat, by omega⟩
 rw [show e - 1075 = -1074 - (d : Int) by omega, nearest_word]
 have h0 : nrung (4503599627370496 + low) d ≤ 0 := by
  by_cases hlt : nrung (4503599627370496 + low) d < 9218868437227405312
  ·obtain ⟨t, n1, n2, n3⟩ := nrung_near hlt
   have h55 : 2 ^ 55 ≤ 2 ^ d := Nat.pow_le_pow_right (by omega) (by omega)
   by_cases ht : 0 < t
   ·have h3 := n3 ht
    have : 2 ^ d ≤ 2 ^ (t + d) := Nat.pow_le_pow_right (by omega) (by omega)
    have h55' : (2 : Nat) ^ 55 = 36028797018963968 := by decide
    omega
   ·obtain rfl : t = 0 := by omega
    rw [Nat.zero_add] at n1
    have h55' : (2 : Nat) ^ 55 = 36028797018963968 := by decide
    by_cases hu : unitsOf (nrung (4503599627370496 + low) d) = 0
    ·have := unitsOf_pos (r := nrung (4503599627370496 + low) d)
     omega
    ·have : 1 * 2 ^ d ≤ unitsOf (nrung (4503599627370496 + low) d) * 2 ^ d := Nat.mul_le_mul_right _ (by omega)
     omega
  ·exfalso
   have : nrung (4503599627370496 + low) d ≤ 9007199254740992 := by
    refine nrung_le ?_
    have hp := Nat.two_pow_pos d
    have hu : 9007199254740992 ≤ unitsOf 9007199254740992 := by decide
    have : 9007199254740992 * 1 ≤ unitsOf 9007199254740992 * 2 ^ d := Nat.mul_le_mul hu hp
    omega
   omega
 rw [Nat.le_zero.1 h0, word_eq]; rfl
theorem log2_norm {low : Nat} (hl : low < 4503599627370496) : (4503599627370496 + low).log2 = 52 := by
 have h1 : 52 ≤ (4503599627370496 + low).log2 := (Nat.le_log2 (by omega)).2 (by omega)
 have h2 : (4503599627370496 + low).log2 < 53 := (Nat.log2_lt (by omega)).2 (by omega)
 omega
theorem scW_sub {low d : Nat} {e : Int} (hl : low < 4503599627370496) (he : e = 1 - (d : Int)) (h1 : 1 ≤ d) (h2 : d ≤ 54) :
  scW (4503599627370496 + low) e = (4503599627370496 + low) / 2 ^ d + (decide (2 ^ (d - 1) < (4503599627370496 + low) % 2 ^ d) || (4503599627370496 + low) % 2 ^ d == 2 ^ (d - 1) && (4503599627370496 + low) / 2 ^ d % 2 == 1).toNat := by
 unfold scW Format.nearest
 rw [if_neg (by omega)]
 dsimp only
 rw [log2_norm hl, lp_eq, binade_eq, infRung_eq]
 have hfb : ((double.fractionBits : Nat) : Int) = 52 := rfl
 rw [hfb]
 have e1 : max (e - 1075 + ((52 : Nat) : Int) - 52) (-1074) = -1074 := by omega
 rw [e1]
 have e2 : (e - 1075 - -1074).toNat = 0 := by omega
 have e3 : (-1074 - (e - 1075)).toNat = d := by omega
 rw [e2, e3, Nat.shiftLeft_zero]
 have e4 : (-1074 - (-1074 : Int)).toNat = 0 := by decide
 rw [e4, Nat.zero_mul, Nat.zero_add]
 unfold Toward.cut
 dsimp only
 have e5 : min d ((4503599627370496 + low).log2 + 2) = d := by rw [log2_norm hl]; omega
 rw [e5, Nat.shiftLeft_eq, Nat.one_mul]
 have hd : 2 ^ d = 2 * 2 ^ (d - 1) := by rw [← Nat.pow_succ']; congr 1; omega
 have hq : (4503599627370496 + low) / 2 ^ d ≤ 4503599627370496 + low := Nat.div_le_self _ _
 have e6 : (decide (2 ^ d < 2 * ((4503599627370496 + low) % 2 ^ d)) || 2 ^ d == 2 * ((4503599627370496 + low) % 2 ^ d) && (4503599627370496 + low) / 2 ^ d % 2 == 1) =
   (decide (2 ^ (d - 1) < (4503599627370496 + low) % 2 ^ d) || (4503599627370496 + low) % 2 ^ d == 2 ^ (d - 1) && (4503599627370496 + low) / 2 ^ d % 2 == 1) := by
  congr 1
  ·rw [Bool.eq_iff_iff, decide_eq_true_iff, decide_eq_true_iff]; omega
  ·congr 1
   rw [Bool.eq_iff_iff, beq_iff_eq, beq_iff_eq]; omega
 rw [e6]
 rw [Nat.min_eq_left, word_eq]
 ·rfl
 ·cases (decide (2 ^ (d - 1) < (4503599627370496 + low) % 2 ^ d) || (4503599627370496 + low) % 2 ^ d == 2 ^ (d - 1) && (4503599627370496 + low) / 2 ^ d % 2 == 1) <;> simp <;> omega
theorem sgn_small {x : Nat} (h : x < 9223372036854775808) : sgn x = false := by unfold sgn; simp; omega
theorem rung_small {x : Nat} (h : x < 9223372036854775808) : rung x = x := by unfold rung; omega
theorem isF_small {x : Nat} (h : x < 9218868437227405312) : isF x := by unfold isF; rw [rung_small (by omega)]; exact h
theorem fmul_pow2 {E low J : Nat} (hl : low < 4503599627370496) (h1 : 1 ≤ E) (h2 : E ≤ 2046) (j1 : 1 ≤ J) (j2 : J ≤ 2046) :
  fmul (E * 4503599627370496 + low) (J * 4503599627370496) = scW (4503599627370496 + low) ((E : Int) + (J : Int) - 1023) := by
 have hu1 := units_norm h1 hl
 have hu := units_norm (low := 0) j1 (by omega)
 rw [Nat.add_zero, Nat.add_zero] at hu
 obtain ⟨x, hx⟩ : ∃ x, x = E * 4503599627370496 + low := ⟨_, rfl⟩
 obtain ⟨y, hy⟩ : ∃ y, y = J * 4503599627370496 := ⟨_, rfl⟩
 have b1 : x < 9218868437227405312 := by omega
 have b2 : y < 9218868437227405312 := by omega
 rw [← hx] at hu1 ⊢
 rw [← hy] at hu ⊢
 rw [mul_fin (isF_small b1) (isF_small b2), sgn_small (by omega), sgn_small (by omega), rung_small (by omega), rung_small (by omega), hu1]
 rw [hu, ← nearest_word]
 have hm : (4503599627370496 + low) * 2 ^ (E - 1) * (4503599627370496 * 2 ^ (J - 1)) = (4503599627370496 + low) <<< (E + J + 50) := by
  have hp : (4503599627370496 : Nat) = 2 ^ 52 := by decide
  rw [Nat.shiftLeft_eq, show E + J + 50 = (E - 1) + 52 + (J - 1) by omega, Nat.pow_add, Nat.pow_add, ← hp]
  generalize 2 ^ (E - 1) = a
  generalize 2 ^ (J - 1) = b
  ac_rfl
 rw [hm, nearest_scale]
 unfold scW
 rw [show (-1074 - (K : Int) + ((E + J + 50 : Nat) : Int)) = (E : Int) + (J : Int) - 1023 - 1075 by rw [K_eq]; omega]
 rfl
end Go.Fl
namespace Go.Fl
open Ieee
theorem fv_lit {c den num : Nat} (h : uv c * (den : Int) = (num : Int) * (U : Int)) : fv c * nq den = nq num := by
 have h1 := fv_mul c
 have h2 : (uv c : Rat) * nq den = nq num * Uq := by
  have e1 : ((uv c * (den : Int) : Int) : Rat) = (uv c : Rat) * nq den := Rat.intCast_mul _ _
  have e2 : (((num : Int) * (U : Int) : Int) : Rat) = nq num * Uq := Rat.intCast_mul _ _
  rw [← e1, h, e2]
 have h3 : (fv c * nq den - nq num) * Uq = 0 := by grind
 have := Uq_ne
 rcases Rat.mul_eq_zero.1 h3 with h4 | h4
 ·grind
 ·grind
theorem fv_neg_lit {c den num : Nat} (h : uv c * (den : Int) = -((num : Int) * (U : Int))) : fv c * nq den = -nq num := by
 have h1 := fv_mul c
 have h2 : (uv c : Rat) * nq den = -(nq num * Uq) := by
  have e1 : ((uv c * (den : Int) : Int) : Rat) = (uv c : Rat) * nq den := Rat.intCast_mul _ _
  have e2 : ((-((num : Int) * (U : Int)) : Int) : Rat) = -(nq num * Uq) := by rw [Rat.intCast_neg]; congr 1; exact Rat.intCast_mul _ _
  rw [← e1, h, e2]
 have h3 : (fv c * nq den + nq num) * Uq = 0 := by grind
 have := Uq_ne
 rcases Rat.mul_eq_zero.1 h3 with h4 | h4
 ·grind
 ·grind
theorem Uq_big : nq (2 ^ 100) ≤ Uq := by
 have h : nq (2 ^ 100) ≤ nq (2 ^ K) := nq_le.2 (Nat.pow_le_pow_right (by omega) (by rw [K_eq]; omega))
 exact h
theorem eta_small : 0 ≤ eta ∧ eta * nq (2 ^ 100) ≤ 1 := by
 have h1 := Uq_big
 have h2 := Uq_pos
 have h3 : eta * (2 * Uq) = 1 := by unfold eta; exact div_cancel (by grind)
 have h4 : 0 ≤ eta := by
  have : (0 : Rat) < 2 * Uq := by grind
  refine le_of_mul_le this ?_
  rw [h3]; grind
 refine ⟨h4, ?_⟩
 have := Rat.mul_le_mul_of_nonneg_left h1 h4
 have h5 : eta * Uq ≤ 1 := by
  have := Rat.mul_nonneg h4 (Rat.le_of_lt h2)
  grind
 exact Rat.le_trans this h5
theorem eta_lt : eta ≤ 1 / 1000000000000000000000000000000 := by
 obtain ⟨h0, h1⟩ := eta_small
 have h2 : nq (2 ^ 100) = 1267650600228229401496703205376 := rfl
 rw [h2] at h1
 grind
theorem mul_bd {a b A B : Rat} (h1 : -A ≤ a) (h2 : a ≤ A) (h3 : -B ≤ b) (h4 : b ≤ B) : -(A * B) ≤ a * b ∧ a * b ≤ A * B := by
 have p1 := Rat.mul_nonneg (show 0 ≤ A - a by grind) (show 0 ≤ B - b by grind)
 have p2 := Rat.mul_nonneg (show 0 ≤ A + a by grind) (show 0 ≤ B + b by grind)
 have p3 := Rat.mul_nonneg (show 0 ≤ A - a by grind) (show 0 ≤ B + b by grind)
 have p4 := Rat.mul_nonneg (show 0 ≤ A + a by grind) (show 0 ≤ B - b by grind)
 constructor <;> grind
theorem Rd.bd {q : Rat} {r : Nat} (h : Rd q r) (n : Nat) (hn : n ≤ 9007199254740992) (h1 : -nq n ≤ q) (h2 : q ≤ nq n) : isF r ∧ -nq n ≤ fv r ∧ fv r ≤ nq n ∧ fv r - q ≤ nq n * eps + eta ∧ q - fv r ≤ nq n * eps + eta := by
 obtain ⟨f1, v1⟩ := fv_wz (z := (n : Int)) (by omega)
 obtain ⟨f2, v2⟩ := fv_wz (z := -(n : Int)) (by omega)
 have e1 : fv (wz (n : Int)) = nq n := v1
 have e2 : fv (wz (-(n : Int))) = -nq n := by rw [v2, Rat.intCast_neg]; rfl
 have hf := h.fin _ _ f2 f1 (by rw [e2]; exact h1) (by rw [e1]; exact h2)
 have a := h.ge _ f2 hf (by rw [e2]; exact h1)
 have b := h.le _ f1 hf (by rw [e1]; exact h2)
 rw [e2] at a
 rw [e1] at b
 exact ⟨hf, a, b, h.near _ h1 h2 hf⟩
def cL : Nat := 4609176140021203710
def cHi : Nat := 4604418534312771584
def cLo : Nat := 4455313330490472685
def cH5 : Nat := 4602678819172646912
theorem lits : isF cL ∧ isF cHi ∧ isF cLo ∧ isF cH5 ∧ fv cL * 2251799813685248 = 3248660424278399 ∧ fv cHi * 8589934592 = 5954088943 ∧ fv cLo * 77371252455336267181195264 = 5756898648422637 ∧ fv cH5 * 2 = 1 := by
 have a := fv_lit (c := cL) (den := 2251799813685248) (num := 3248660424278399) (by decide +kernel)
 have b := fv_lit (c := cHi) (den := 8589934592) (num := 5954088943) (by decide +kernel)
 have c := fv_lit (c := cLo) (den := 77371252455336267181195264) (num := 5756898648422637) (by decide +kernel)
 have d := fv_lit (c := cH5) (den := 2) (num := 1) (by decide +kernel)
 exact ⟨isF_small (by decide), isF_small (by decide), isF_small (by decide), isF_small (by decide), a, b, c, d⟩
def expB (x : Nat) : Nat := fadd (fmul x cL) cH5
def expKf (x : Nat) : Nat := ffloor (expB x)
def expR (x : Nat) : Nat := fsub (fsub x (fmul (expKf x) cHi)) (fmul (expKf x) cLo)
def expSer (r : Nat) : Nat → Nat
 | 0 => w1
 | j + 1 => fadd w1 (fdiv (fmul r (expSer r j)) (wz (14 - (j : Int))))
theorem exp_left {x : Nat} (hx : isF x) (x1 : -746 ≤ fv x) (x2 : fv x ≤ 710) : isF (expB x) ∧ -1080 ≤ flI (expB x) ∧ flI (expB x) ≤ 1080 ∧ isF (expR x) ∧ -(1 / 2) ≤ fv (expR x) ∧ fv (expR x) ≤ 1 / 2 := by
 obtain ⟨fL, fH, fO, f5, vL, vH, vO, v5⟩ := lits
 have hη := eta_lt
 have hη0 := eta_small.1
 have hε : eps * 4503599627370496 = 1 := by unfold eps; grind
 have L1 : fv cL ≤ 1443 / 1000 := by grind
 have L0 : -(1443 / 1000) ≤ fv cL := by grind
 have H1 : fv cHi ≤ 7 / 10 := by grind
 have H0 : 0 ≤ fv cHi := by grind
 have O1 : fv cLo ≤ 1 / 10000000000 := by grind
 have O0 : 0 ≤ fv cLo := by grind
 have P : fv cL * (fv cHi + fv cLo) - 1 ≤ 1 / 1000000000000000 ∧ -(1 / 1000000000000000) ≤ fv cL * (fv cHi + fv cLo) - 1 := by
  have eL : fv cL = 3248660424278399 / 2251799813685248 := by grind
  have eH : fv cHi = 5954088943 / 8589934592 := by grind
  have eO : fv cLo = 5756898648422637 / 77371252455336267181195264 := by grind
  rw [eL, eH, eO]
  constructor <;> decide +kernel
 obtain ⟨X, hX⟩ : ∃ X, X = fv x := ⟨_, rfl⟩
 have n1100 : nq 1100 = 1100 := rfl
 have n1200 : nq 1200 = 1200 := rfl
 have n2000 : nq 2000 = 2000 := rfl
 have n3000 : nq 3000 = 3000 := rfl
 -- x / ln 2
 have q1 := mul_bd (A := 746) (B := 1443 / 1000) (show -746 ≤ fv x by grind) (show fv x ≤ 746 by grind) L0 L1
 obtain ⟨fa, a1, a2, a3, a4⟩ := (mul_rd hx fL).bd 1100 (by omega) (by rw [n1100]; grind) (by rw [n1100]; grind)
 obtain ⟨fb, b1, b2, b3, b4⟩ := (add_rd fa f5).bd 1200 (by omega) (by rw [n1200]; rw [n1100] at a1; grind) (by rw [n1200]; rw [n1100] at a2; grind)
 have hb : expB x = fadd (fmul x cL) cH5 := rfl
 rw [← hb] at fb b1 b2 b3 b4
 rw [n1100] at a3 a4
 rw [n1200] at b3 b4
 have k1 := flI_le (expB x)
 have k2 := lt_flI (expB x)
 obtain ⟨fk, vk⟩ := floor_rat fb
 have hk : expKf x = ffloor (expB x) := rfl
 rw [← hk] at fk vk
 obtain ⟨κ, hκ⟩ : ∃ κ : Rat, κ = ((flI (expB x) : Int) : Rat) := ⟨_, rfl⟩
 rw [← hκ] at k1 k2 vk
 -- X L is κ up to a half and a little
 have d1 : fv x * fv cL - κ ≤ 501 / 1000 := by grind
 have d2 : -(501 / 1000) ≤ fv x * fv cL - κ := by grind
 have κ1 : κ ≤ 1078 := by grind
 have κ2 : -1078 ≤ κ := by grind
 -- the multiples
 have q2 := mul_bd (A := 1080) (B := 7 / 10) (show -1080 ≤ fv (expKf x) by rw [vk]; grind) (show fv (expKf x) ≤ 1080 by rw [vk]; grind) (show -(7 / 10) ≤ fv cHi by grind) H1
 obtain ⟨fh, h1, h2, h3, h4⟩ := (mul_rd fk fH).bd 1100 (by omega) (by rw [n1100]; grind) (by rw [n1100]; grind)
 rw [n1100] at h1 h2 h3 h4
 obtain ⟨fd, e1, e2, e3, e4⟩ := (sub_rd hx fh).bd 2000 (by omega) (by rw [n2000]; grind) (by rw [n2000]; grind)
 rw [n2000] at e1 e2 e3 e4
 have q3 := mul_bd (A := 1080) (B := 1 / 10000000000) (show -1080 ≤ fv (expKf x) by rw [vk]; grind) (show fv (expKf x) ≤ 1080 by rw [vk]; grind) (show -(1 / 10000000000) ≤ fv cLo by grind) O1
 obtain ⟨fl, l1, l2, l3, l4⟩ := (mul_rd fk fO).bd 1 (by omega) (by show -1 ≤ _; grind) (by show _ ≤ 1; grind)
 have n1 : nq 1 = 1 := rfl
 rw [n1] at l1 l2 l3 l4
 obtain ⟨fr, r1, r2, r3, r4⟩ := (sub_rd fd fl).bd 3000 (by omega) (by rw [n3000]; grind) (by rw [n3000]; grind)
 rw [n3000] at r3 r4
 have hr : expR x = fsub (fsub x (fmul (expKf x) cHi)) (fmul (expKf x) cLo) := rfl
 rw [← hr] at fr r1 r2 r3 r4
 rw [vk] at h3 h4 l3 l4
 -- what is left, exactly
 have s1 := mul_bd (A := 746) (B := 1 / 1000000000000000) (show -746 ≤ fv x by grind) (show fv x ≤ 746 by grind) P.2 P.1
 have s2 := mul_bd (A := 501 / 1000) (B := 7001 / 10000) d2 d1 (show -(7001 / 10000) ≤ fv cHi + fv cLo by grind) (show fv cHi + fv cLo ≤ 7001 / 10000 by grind)
 have key : fv x - κ * fv cHi - κ * fv cLo = (fv x * fv cL - κ) * (fv cHi + fv cLo) - fv x * (fv cL * (fv cHi + fv cLo) - 1) := by grind
 have i1 : -1080 ≤ flI (expB x) := by
  have : ((-1080 : Int) : Rat) ≤ ((flI (expB x) : Int) : Rat) := by rw [← hκ]; show (-1080 : Rat) ≤ κ; grind
  exact Rat.intCast_le_intCast.1 this
 have i2 : flI (expB x) ≤ 1080 := by
  have : ((flI (expB x) : Int) : Rat) ≤ ((1080 : Int) : Rat) := by rw [← hκ]; show κ ≤ (1080 : Rat); grind
  exact Rat.intCast_le_intCast.1 this
 refine ⟨fb, i1, i2, fr, ?_, ?_⟩
 ·grind
 ·grind
def c34 : Nat := 4604930618986332160
def n34 : Nat := 13828302655841107968
def c12 : Nat := 4602678819172646912
def c32 : Nat := 4609434218613702656
def c14 : Nat := 4598175219545276416
def c74 : Nat := 4610560118520545280
theorem lits2 : isF c34 ∧ isF n34 ∧ isF c12 ∧ isF c32 ∧ isF c14 ∧ isF c74 ∧ fv c34 * 4 = 3 ∧ fv n34 * 4 = -3 ∧ fv c12 * 2 = 1 ∧ fv c32 * 2 = 3 ∧ fv c14 * 4 = 1 ∧ fv c74 * 4 = 7 := by
 refine ⟨isF_small (by decide), ?_, isF_small (by decide), isF_small (by decide), isF_small (by decide), isF_small (by decide), ?_, ?_, ?_, ?_, ?_, ?_⟩
 ·unfold isF; decide
 ·exact fv_lit (c := c34) (den := 4) (num := 3) (by decide +kernel)
 ·exact fv_neg_lit (c := n34) (den := 4) (num := 3) (by decide +kernel)
 ·exact fv_lit (c := c12) (den := 2) (num := 1) (by decide +kernel)
 ·exact fv_lit (c := c32) (den := 2) (num := 3) (by decide +kernel)
 ·exact fv_lit (c := c14) (den := 4) (num := 1) (by decide +kernel)
 ·exact fv_lit (c := c74) (den := 4) (num := 7) (by decide +kernel)
theorem ser_step {r s : Nat} (hr : isF r) (r1 : -(1 / 2) ≤ fv r) (r2 : fv r ≤ 1 / 2) (hs : isF s) (s1 : 1 / 2 ≤ fv s) (s2 : fv s ≤ 3 / 2) (i : Int) (i1 : 1 ≤ i) (i2 : i ≤ 100) :
  isF (fadd w1 (fdiv (fmul r s) (wz i))) ∧ (2 ≤ i → 1 / 2 ≤ fv (fadd w1 (fdiv (fmul r s) (wz i))) ∧ fv (fadd w1 (fdiv (fmul r s) (wz i))) ≤ 3 / 2) ∧ 1 / 4 ≤ fv (fadd w1 (fdiv (fmul r s) (wz i))) ∧ fv (fadd w1 (fdiv (fmul r s) (wz i))) ≤ 7 / 4 := by
 obtain ⟨f34, g34, f12, f32, f14, f74, v34, u34, v12, v32, v14, v74⟩ := lits2
 obtain ⟨fw, vw⟩ := fv_one
 obtain ⟨fi, vi⟩ := fv_wz (z := i) (by omega)
 have p := mul_bd (A := 1 / 2) (B := 3 / 2) r1 r2 (show -(3 / 2) ≤ fv s by grind) s2
 have hp := mul_rd hr hs
 have fp : isF (fmul r s) := hp.fin n34 c34 g34 f34 (by grind) (by grind)
 have p1 := hp.ge n34 g34 fp (by grind)
 have p2 := hp.le c34 f34 fp (by grind)
 have iq : (1 : Rat) ≤ ((i : Int) : Rat) := by
  have := Rat.intCast_le_intCast.2 i1
  exact this
 have ui : uv (wz i) ≠ 0 := fun h => by
  have : fv (wz i) = 0 := by unfold fv; rw [h]; grind
  grind
 have hd := div_rd fp fi ui
 rw [vi] at hd
 generalize fmul r s = P at *
 have ip : (0 : Rat) < ((i : Int) : Rat) := by grind
 have hcan : fv P / ((i : Int) : Rat) * ((i : Int) : Rat) = fv P := div_cancel ip
 have d1 : fv P / ((i : Int) : Rat) ≤ 3 / 4 := by
  refine le_of_mul_le ip ?_
  rw [hcan]; grind
 have d2 : -(3 / 4) ≤ fv P / ((i : Int) : Rat) := by
  refine le_of_mul_le ip ?_
  rw [hcan]; grind
 have d3 : 2 ≤ i → fv P / ((i : Int) : Rat) ≤ 3 / 8 := fun h => by
  have : (2 : Rat) ≤ ((i : Int) : Rat) := Rat.intCast_le_intCast.2 h
  refine le_of_mul_le ip ?_
  rw [hcan]; grind
 have d4 : 2 ≤ i → -(3 / 8) ≤ fv P / ((i : Int) : Rat) := fun h => by
  have : (2 : Rat) ≤ ((i : Int) : Rat) := Rat.intCast_le_intCast.2 h
  refine le_of_mul_le ip ?_
  rw [hcan]; grind
 obtain ⟨fq, _, _, _, _⟩ := hd.bd 1 (by omega) (by show -1 ≤ _; grind) (by show _ ≤ 1; grind)
 have q1 := hd.ge n34 g34 fq (by grind)
 have q2 := hd.le c34 f34 fq (by grind)
 have nr := hd.near (3 / 4) d2 d1 fq
 generalize fdiv P (wz i) = D at *
 have ha := add_rd fw fq
 obtain ⟨fa, _, _, _, _⟩ := ha.bd 2 (by omega) (by show -2 ≤ _; grind) (by show _ ≤ 2; grind)
 have hη := eta_lt
 have hε : eps * 4503599627370496 = 1 := by unfold eps; grind
 refine ⟨fa, fun h2 => ⟨?_, ?_⟩, ?_, ?_⟩
 ·have := ha.ge c12 f12 fa (by have := d4 h2; grind)
  grind
 ·have := ha.le c32 f32 fa (by have := d3 h2; grind)
  grind
 ·have := ha.ge c14 f14 fa (by grind)
  grind
 ·have := ha.le c74 f74 fa (by grind)
  grind
theorem ser_in {r : Nat} (hr : isF r) (r1 : -(1 / 2) ≤ fv r) (r2 : fv r ≤ 1 / 2) : ∀ j : Nat, j ≤ 13 → isF (expSer r j) ∧ 1 / 2 ≤ fv (expSer r j) ∧ fv (expSer r j) ≤ 3 / 2
 | 0, _ => by
  obtain ⟨fw, vw⟩ := fv_one
  refine ⟨fw, ?_, ?_⟩
  ·show _ ≤ fv w1; grind
  ·show fv w1 ≤ _; grind
 | j + 1, h => by
  obtain ⟨f, a, b⟩ := ser_in hr r1 r2 j (by omega)
  obtain ⟨g, c, _⟩ := ser_step hr r1 r2 f a b (14 - (j : Int)) (by omega) (by omega)
  exact ⟨g, c (by omega)⟩
theorem ser_end {r : Nat} (hr : isF r) (r1 : -(1 / 2) ≤ fv r) (r2 : fv r ≤ 1 / 2) : isF (expSer r 14) ∧ 1 / 4 ≤ fv (expSer r 14) ∧ fv (expSer r 14) ≤ 7 / 4 := by
 obtain ⟨f, a, b⟩ := ser_in hr r1 r2 13 (by omega)
 obtain ⟨g, _, c⟩ := ser_step hr r1 r2 f a b (14 - ((13 : Nat) : Int)) (by omega) (by omega)
 exact ⟨g, c⟩
theorem roundU_lt (z : Bool) (n : Int) : roundU z n < 18446744073709551616 := by
 unfold roundU
 have e : (-1074 : Int) = -1074 - ((0 : Nat) : Int) := rfl
 rw [e, nearest_word, word_eq]
 have := nrung_top n.natAbs 0
 generalize (if n = 0 then z else decide (n < 0)) = b
 cases b <;> simp <;> omega
theorem fadd_lt {x y : Nat} (hx : isF x) (hy : isF y) : fadd x y < 18446744073709551616 := by
 rw [add_fin hx hy]; exact roundU_lt _ _
theorem word_pos {x : Nat} (h64 : x < 18446744073709551616) (hf : isF x) (h : 0 < fv x) : x < 9218868437227405312 := by
 have hs : sgn x = false := by
  cases hs : sgn x
  ·rfl
  ·exfalso
   have := fa_nonneg x
   have h2 := fv_fa x
   rw [hs, if_pos rfl] at h2
   grind
 unfold isF rung at hf
 unfold sgn at hs
 simp at hs
 omega
theorem ser_word {r : Nat} (hr : isF r) (r1 : -(1 / 2) ≤ fv r) (r2 : fv r ≤ 1 / 2) : ∃ E low, expSer r 14 = E * 4503599627370496 + low ∧ low < 4503599627370496 ∧ 1021 ≤ E ∧ E ≤ 1023 := by
 obtain ⟨f, a, b⟩ := ser_end hr r1 r2
 obtain ⟨f34, g34, f12, f32, f14, f74, v34, u34, v12, v32, v14, v74⟩ := lits2
 have h64 : expSer r 14 < 18446744073709551616 := by
  obtain ⟨f13, a13, b13⟩ := ser_in hr r1 r2 13 (by omega)
  obtain ⟨fw, vw⟩ := fv_one
  have hs : expSer r 14 = fadd w1 (fdiv (fmul r (expSer r 13)) (wz (14 - ((13 : Nat) : Int)))) := rfl
  rw [hs]
  -- the quotient is finite
  have p := mul_bd (A := 1 / 2) (B := 3 / 2) r1 r2 (show -(3 / 2) ≤ fv (expSer r 13) by grind) b13
  have hp := mul_rd hr f13
  have fp : isF (fmul r (expSer r 13)) := hp.fin n34 c34 g34 f34 (by grind) (by grind)
  have p1 := hp.ge n34 g34 fp (by grind)
  have p2 := hp.le c34 f34 fp (by grind)
  obtain ⟨fi, vi⟩ := fv_wz (z := 14 - ((13 : Nat) : Int)) (by omega)
  have e1 : (((14 - ((13 : Nat) : Int) : Int)) : Rat) = 1 := rfl
  rw [e1] at vi
  have ui : uv (wz (14 - ((13 : Nat) : Int))) ≠ 0 := fun h => by
   have : fv (wz (14 - ((13 : Nat) : Int))) = 0 := by unfold fv; rw [h]; grind
   grind
  have hd := div_rd fp fi ui
  rw [vi] at hd
  have e2 : fv (fmul r (expSer r 13)) / 1 = fv (fmul r (expSer r 13)) := by grind
  rw [e2] at hd
  have fq : isF (fdiv (fmul r (expSer r 13)) (wz (14 - ((13 : Nat) : Int)))) := hd.fin n34 c34 g34 f34 (by grind) (by grind)
  exact fadd_lt fw fq
 have hw := word_pos h64 f (by grind)
 generalize expSer r 14 = S at *
 have u1 : fv c14 ≤ fv S := by grind
 have u2 : fv S ≤ fv c74 := by grind
 have e1 := uv_lt_iff f f14
 have e2 := uv_lt_iff f74 f
 rw [fv_le] at u1 u2
 rw [pl_fin f, pl_fin f14, sgn_small (x := S) (by omega), sgn_small (x := c14) (by decide), rung_small (x := S) (by omega), rung_small (x := c14) (by decide)] at e1
 rw [pl_fin f, pl_fin f74, sgn_small (x := S) (by omega), sgn_small (x := c74) (by decide), rung_small (x := S) (by omega), rung_small (x := c74) (by decide)] at e2
 simp only [Bool.false_eq_true, if_false] at e1 e2
 have c1 : c14 ≤ S := by omega
 have c2 : S ≤ c74 := by omega
 have d1 : c14 = 1021 * 4503599627370496 := by decide
 have d2 : c74 < 1024 * 4503599627370496 := by decide
 exact ⟨S / 4503599627370496, S % 4503599627370496, by omega, by omega, by omega, by omega⟩
def cTop : Nat := 4649454530587146735
def cLow : Nat := 13873137513782915154
def expW (x : Nat) : Nat := scW (4503599627370496 + expSer (expR x) 14 % 4503599627370496) (((expSer (expR x) 14 / 4503599627370496 : Nat) : Int) + flI (expB x))
def expS (x : Nat) : Nat := if isN x = true then nanc else if (ford x cTop == some .gt) = true then pinf else if (ford x cLow == some .lt) = true then 0 else expW x
theorem exp_dom {x : Nat} (h : isN x = false) (h1 : (ford x cTop == some .gt) = false) (h2 : (ford x cLow == some .lt) = false) : isF x ∧ -746 ≤ fv x ∧ fv x ≤ 710 := by
 have n0 : isN cLow = false := by decide +kernel
 have n1 : isN cTop = false := by decide +kernel
 have f0 : isF cLow := by unfold isF; decide
 have f1 : isF cTop := by unfold isF; decide
 have a1 : pl cLow ≤ pl x := by
  rw [ford_pl h n0] at h2
  rcases Int.lt_or_le (pl x) (pl cLow) with h3 | h3
  ·rw [Std.compare_eq_lt.2 h3] at h2; simp at h2
  ·exact h3
 have a2 : pl x ≤ pl cTop := by
  rw [ford_pl h n1] at h1
  rcases Int.lt_or_le (pl cTop) (pl x) with h3 | h3
  ·rw [Std.compare_eq_gt.2 h3] at h1; simp at h1
  ·exact h3
 have hf := isF_of_pl h f0 f1 a1 a2
 have v0 : fv cLow * 4398046511104 = -3277130554578985 := fv_neg_lit (c := cLow) (den := 4398046511104) (num := 3277130554578985) (by decide +kernel)
 have v1 : fv cTop * 8796093022208 = 6243314768165359 := fv_lit (c := cTop) (den := 8796093022208) (num := 6243314768165359) (by decide +kernel)
 have b1 : fv cLow ≤ fv x := by
  rw [fv_le]
  have := uv_lt_iff hf f0
  omega
 have b2 : fv x ≤ fv cTop := by
  rw [fv_le]
  have := uv_lt_iff f1 hf
  omega
 refine ⟨hf, ?_, ?_⟩ <;> grind
theorem expKf_conv {x r : Nat} (hx : isF x) (x1 : -746 ≤ fv x) (x2 : fv x ≤ 710) (hr : cn r = expKf x) : floatToIntVal .f64 r .i64 = some (flI (expB x)) := by
 obtain ⟨fb, k1, k2, _⟩ := exp_left hx x1 x2
 obtain ⟨f1, f2⟩ := ffloor_fin fb
 have hrr : r = expKf x := by
  have h2 : isN r = false := by rw [← isN_cn, hr]; exact isF_notN f1
  rw [← hr, cn_of_notN h2]
 have hU : (0 : Int) < (U : Int) := by have := U_pos; omega
 have e : uv (expKf x) = flI (expB x) * (U : Int) := f2
 have f1' : isF (expKf x) := f1
 rw [hrr, toIntVal_fin (lo := -1080) (hi := 1080) f1' ?_ ?_ (by omega) (by omega)]
 ·rw [e, Int.mul_tdiv_cancel _ (by omega)]
 ·rw [e]; exact Int.mul_le_mul_of_nonneg_right k1 (Int.le_of_lt hU)
 ·rw [e]; exact Int.mul_le_mul_of_nonneg_right k2 (Int.le_of_lt hU)
end Go.Fl
namespace Go.Fl
def hB : Nat := 4604544271217802189
end Go.Fl
namespace Go.Proofs.YtmmfjknnbkcniaaGreatDoor
open Go.Fl Go.Rel Go.RowKit
theorem half_any (w : World) : Calls Tryz.prog 142 #[] w fun e w' => e = .returned (.float .f64 hB) ∧ w = w' := by
 have hr := frombits_run 4604544271217802189 w
 go_enter Tryz.func142, Tryz.ntmps142
 go_wp2_with (simp only [hr])
 go_ret
 exact ⟨rfl, rfl⟩
theorem rbits_any (n : Int) (w : World) : Calls Tryz.prog 147 #[.int .u64 n] w fun e w' => e = .returned (.float .f64 n.toNat) ∧ w = w' := by
 have hr := frombits_run n w
 go_enter Tryz.func147, Tryz.ntmps147
 go_wp2_with (simp only [hr])
 go_ret
 exact ⟨rfl, rfl⟩
theorem rhalf_any (w : World) : Calls Tryz.prog 162 #[] w fun e w' => e = .returned (.float .f64 hB) ∧ w = w' := by
 go_enter Tryz.func162, Tryz.ntmps162
 go_wp2_with (go_at_call 147; refine (rbits_any _ _).mono ?_; rintro e w' ⟨rfl, rfl⟩)
 go_ret
 exact ⟨rfl, rfl⟩
end Go.Proofs.YtmmfjknnbkcniaaGreatDoor
