/- Small functions: IsNaN, Inf, the orders of floats. Floats times powers of two; a significand at a place, rounded once. The exponential's steps: the part that is left is small, the series lies between 1/4 and 7/4. Half the square root of two; words as numbers: on both sides. scaled and scale: a significand at a place. Logarithms: a number above zero as a significand near one times a power of two; the series; of classes. -/
import Derived.Test.YtmmfjknnbkcniaaGreatDoorQ01
import Derived.Test.YtmmfjknnbkcniaaGreatDoorQ02
import Derived.Laws.BitsAllLaws
namespace Go.Proofs.YtmmfjknnbkcniaaGreatDoor
open Go.Fl Go.Rel Go.RowKit

theorem cn_pinf : cn pinf = pinf := by decide +kernel
theorem cn_ninf : cn ninf = ninf := by decide +kernel

theorem isnan_any (x : Nat) (w : World) : Calls Tryz.prog 75 #[.float .f64 x] w fun e w' => e = .returned (.bool (isN x)) ∧ w = w' := by
  have hx : (FloatKind.f64.format.order x x != some .eq) = isN x := ne_self x
  go_enter Tryz.func75, Tryz.ntmps75
  go_wp2
  go_ret
  exact ⟨rfl, rfl⟩
theorem inf_up (w : World) : Calls Tryz.prog 110 #[.int .i64 1] w fun e w' => e = .returned (.float .f64 pinf) ∧ w = w' := by
  have hr := frombits_run 9218868437227405312 w
  go_enter Tryz.func110, Tryz.ntmps110
  go_wp2_with (simp only [hr])
  go_ret
  exact ⟨rfl, rfl⟩
theorem inf_down (w : World) : Calls Tryz.prog 110 #[.int .i64 (-1)] w fun e w' => e = .returned (.float .f64 ninf) ∧ w = w' := by
  have hr := frombits_run 18442240474082181120 w
  go_enter Tryz.func110, Tryz.ntmps110
  go_wp2_with (simp only [hr])
  go_ret
  exact ⟨rfl, rfl⟩
/-- A word of 64 bits, all NaN as one. -/
def W64 (x : Nat) : Prop := cn x < 18446744073709551616

end Go.Proofs.YtmmfjknnbkcniaaGreatDoor

namespace Go.Fl
open Ieee

/-- M 2^(e - 1075), rounded once. -/
def scW (M : Nat) (e : Int) : Nat := double.nearest false M (e - 1075)

theorem units_norm {E low : Nat} (hE : 1 ≤ E) (hl : low < 4503599627370496) : unitsOf (E * 4503599627370496 + low) = (4503599627370496 + low) * 2 ^ (E - 1) := by
  unfold unitsOf
  rw [if_neg (by omega), show (E * 4503599627370496 + low) % 4503599627370496 = low by omega, show (E * 4503599627370496 + low) / 4503599627370496 = E by omega]

theorem scW_norm {low E : Nat} {e : Int} (hl : low < 4503599627370496) (he : e = (E : Int)) (h1 : 1 ≤ E) (h2 : E ≤ 2046) : scW (4503599627370496 + low) e = E * 4503599627370496 + low := by
  have hr : E * 4503599627370496 + low < 9218868437227405312 := by omega
  have h := nearest_units false hr
  rw [units_norm h1 hl, ← Nat.shiftLeft_eq, nearest_scale] at h
  unfold scW
  rw [he, show (E : Int) - 1075 = -1074 + ((E - 1 : Nat) : Int) by omega, h, word_eq]; rfl

theorem scW_top {low : Nat} {e : Int} (he : 2047 ≤ e) : scW (4503599627370496 + low) e = 9218868437227405312 := by
  unfold scW
  obtain ⟨t, ht⟩ : ∃ t : Nat, e = 2047 + (t : Int) := ⟨(e - 2047).toNat, by omega⟩
  obtain ⟨T, hT⟩ : ∃ T : Nat, T = 2046 := ⟨_, rfl⟩
  rw [show e - 1075 = -1074 - ((0 : Nat) : Int) + ((T + t : Nat) : Int) by omega, ← nearest_scale, nearest_word]
  have hu : unitsOf (T * 4503599627370496 + 4503599627370496) = 4503599627370496 * 2 ^ T := units_at (by omega) (by omega)
  have hle : 9218868437227405312 ≤ nrung ((4503599627370496 + low) <<< (T + t)) 0 := by
    refine le_nrung (Nat.le_refl _) ?_
    rw [show (9218868437227405312 : Nat) = T * 4503599627370496 + 4503599627370496 by omega, hu, Nat.shiftLeft_eq, Nat.pow_add]
    generalize 2 ^ T = g
    have := Nat.two_pow_pos t
    rw [Nat.pow_zero, Nat.mul_one]
    have h1 : 4503599627370496 * g ≤ (4503599627370496 + low) * g := Nat.mul_le_mul_right _ (by omega)
    have h2 : (4503599627370496 + low) * g * 1 ≤ (4503599627370496 + low) * g * 2 ^ t := Nat.mul_le_mul_left _ this
    rw [Nat.mul_assoc] at h2
    rw [← Nat.mul_assoc]
    rw [← Nat.mul_assoc] at h2
    omega
  have := nrung_top ((4503599627370496 + low) <<< (T + t)) 0
  rw [Nat.le_antisymm this hle, word_eq]; rfl

theorem scW_none {low : Nat} {e : Int} (hl : low < 4503599627370496) (he : e < -53) : scW (4503599627370496 + low) e = 0 := by
  unfold scW
  obtain ⟨d, hd⟩ : ∃ d : Nat, e = 1 - (d : Int) := ⟨(1 - e).toNat, by omega⟩
  rw [show e - 1075 = -1074 - (d : Int) by omega, nearest_word]
  have h0 : nrung (4503599627370496 + low) d ≤ 0 := by
    by_cases hlt : nrung (4503599627370496 + low) d < 9218868437227405312
    · obtain ⟨t, n1, n2, n3⟩ := nrung_near hlt
      have h55 : 2 ^ 55 ≤ 2 ^ d := Nat.pow_le_pow_right (by omega) (by omega)
      by_cases ht : 0 < t
      · have h3 := n3 ht
        have : 2 ^ d ≤ 2 ^ (t + d) := Nat.pow_le_pow_right (by omega) (by omega)
        have h55' : (2 : Nat) ^ 55 = 36028797018963968 := by decide
        omega
      · obtain rfl : t = 0 := by omega
        rw [Nat.zero_add] at n1
        have h55' : (2 : Nat) ^ 55 = 36028797018963968 := by decide
        by_cases hu : unitsOf (nrung (4503599627370496 + low) d) = 0
        · have := unitsOf_pos (r := nrung (4503599627370496 + low) d)
          omega
        · have : 1 * 2 ^ d ≤ unitsOf (nrung (4503599627370496 + low) d) * 2 ^ d := Nat.mul_le_mul_right _ (by omega)
          omega
    · exfalso
      have : nrung (4503599627370496 + low) d ≤ 9007199254740992 := by
        refine nrung_le ?_
        have hp := Nat.two_pow_pos d
        have hu : 9007199254740992 ≤ unitsOf 9007199254740992 := by decide
        have : 9007199254740992 * 1 ≤ unitsOf 9007199254740992 * 2 ^ d := Nat.mul_le_mul hu hp
        omega
      omega
  rw [Nat.le_zero.1 h0, word_eq]; rfl

theorem log2_norm {low : Nat} (hl : low < 4503599627370496) : (4503599627370496 + low).log2 = 52 := by
  have h1 : 52 ≤ (4503599627370496 + low).log2 := (Nat.le_log2 (by omega)).2 (by omega)
  have h2 : (4503599627370496 + low).log2 < 53 := (Nat.log2_lt (by omega)).2 (by omega)
  omega

/-- Below the normal numbers: the digits that are kept, and one more or not. -/
theorem scW_sub {low d : Nat} {e : Int} (hl : low < 4503599627370496) (he : e = 1 - (d : Int)) (h1 : 1 ≤ d) (h2 : d ≤ 54) :
    scW (4503599627370496 + low) e = (4503599627370496 + low) / 2 ^ d + (decide (2 ^ (d - 1) < (4503599627370496 + low) % 2 ^ d) || (4503599627370496 + low) % 2 ^ d == 2 ^ (d - 1) && (4503599627370496 + low) / 2 ^ d % 2 == 1).toNat := by
  unfold scW Format.nearest
  rw [if_neg (by omega)]
  dsimp only
  rw [log2_norm hl, lp_eq, binade_eq, infRung_eq]
  have hfb : ((double.fractionBits : Nat) : Int) = 52 := rfl
  rw [hfb]
  have e1 : max (e - 1075 + ((52 : Nat) : Int) - 52) (-1074) = -1074 := by omega
  rw [e1]
  have e2 : (e - 1075 - -1074).toNat = 0 := by omega
  have e3 : (-1074 - (e - 1075)).toNat = d := by omega
  rw [e2, e3, Nat.shiftLeft_zero]
  have e4 : (-1074 - (-1074 : Int)).toNat = 0 := by decide
  rw [e4, Nat.zero_mul, Nat.zero_add]
  unfold Toward.cut
  dsimp only
  have e5 : min d ((4503599627370496 + low).log2 + 2) = d := by rw [log2_norm hl]; omega
  rw [e5, Nat.shiftLeft_eq, Nat.one_mul]
  have hd : 2 ^ d = 2 * 2 ^ (d - 1) := by rw [← Nat.pow_succ']; congr 1; omega
  have hq : (4503599627370496 + low) / 2 ^ d ≤ 4503599627370496 + low := Nat.div_le_self _ _
  have e6 : (decide (2 ^ d < 2 * ((4503599627370496 + low) % 2 ^ d)) || 2 ^ d == 2 * ((4503599627370496 + low) % 2 ^ d) && (4503599627370496 + low) / 2 ^ d % 2 == 1) =
      (decide (2 ^ (d - 1) < (4503599627370496 + low) % 2 ^ d) || (4503599627370496 + low) % 2 ^ d == 2 ^ (d - 1) && (4503599627370496 + low) / 2 ^ d % 2 == 1) := by
    congr 1
    · rw [Bool.eq_iff_iff, decide_eq_true_iff, decide_eq_true_iff]; omega
    · congr 1
      rw [Bool.eq_iff_iff, beq_iff_eq, beq_iff_eq]; omega
  rw [e6]
  rw [Nat.min_eq_left, word_eq]
  · rfl
  · cases (decide (2 ^ (d - 1) < (4503599627370496 + low) % 2 ^ d) || (4503599627370496 + low) % 2 ^ d == 2 ^ (d - 1) && (4503599627370496 + low) / 2 ^ d % 2 == 1) <;> simp <;> omega

theorem sgn_small {x : Nat} (h : x < 9223372036854775808) : sgn x = false := by unfold sgn; simp; omega
theorem rung_small {x : Nat} (h : x < 9223372036854775808) : rung x = x := by unfold rung; omega

theorem isF_small {x : Nat} (h : x < 9218868437227405312) : isF x := by unfold isF; rw [rung_small (by omega)]; exact h

/-- A normal number times a power of two. -/
theorem fmul_pow2 {E low J : Nat} (hl : low < 4503599627370496) (h1 : 1 ≤ E) (h2 : E ≤ 2046) (j1 : 1 ≤ J) (j2 : J ≤ 2046) :
    fmul (E * 4503599627370496 + low) (J * 4503599627370496) = scW (4503599627370496 + low) ((E : Int) + (J : Int) - 1023) := by
  have hu1 := units_norm h1 hl
  have hu := units_norm (low := 0) j1 (by omega)
  rw [Nat.add_zero, Nat.add_zero] at hu
  obtain ⟨x, hx⟩ : ∃ x, x = E * 4503599627370496 + low := ⟨_, rfl⟩
  obtain ⟨y, hy⟩ : ∃ y, y = J * 4503599627370496 := ⟨_, rfl⟩
  have b1 : x < 9218868437227405312 := by omega
  have b2 : y < 9218868437227405312 := by omega
  rw [← hx] at hu1 ⊢
  rw [← hy] at hu ⊢
  rw [mul_fin (isF_small b1) (isF_small b2), sgn_small (by omega), sgn_small (by omega), rung_small (by omega), rung_small (by omega), hu1]
  rw [hu, ← nearest_word]
  have hm : (4503599627370496 + low) * 2 ^ (E - 1) * (4503599627370496 * 2 ^ (J - 1)) = (4503599627370496 + low) <<< (E + J + 50) := by
    have hp : (4503599627370496 : Nat) = 2 ^ 52 := by decide
    rw [Nat.shiftLeft_eq, show E + J + 50 = (E - 1) + 52 + (J - 1) by omega, Nat.pow_add, Nat.pow_add, ← hp]
    generalize 2 ^ (E - 1) = a
    generalize 2 ^ (J - 1) = b
    ac_rfl
  rw [hm, nearest_scale]
  unfold scW
  rw [show (-1074 - (K : Int) + ((E + J + 50 : Nat) : Int)) = (E : Int) + (J : Int) - 1023 - 1075 by rw [K_eq]; omega]
  rfl

end Go.Fl

namespace Go.Fl
open Ieee

theorem fv_lit {c den num : Nat} (h : uv c * (den : Int) = (num : Int) * (U : Int)) : fv c * nq den = nq num := by
  have h1 := fv_mul c
  have h2 : (uv c : Rat) * nq den = nq num * Uq := by
    have e1 : ((uv c * (den : Int) : Int) : Rat) = (uv c : Rat) * nq den := Rat.intCast_mul _ _
    have e2 : (((num : Int) * (U : Int) : Int) : Rat) = nq num * Uq := Rat.intCast_mul _ _
    rw [← e1, h, e2]
  have h3 : (fv c * nq den - nq num) * Uq = 0 := by grind
  have := Uq_ne
  rcases Rat.mul_eq_zero.1 h3 with h4 | h4
  · grind
  · grind
theorem fv_neg_lit {c den num : Nat} (h : uv c * (den : Int) = -((num : Int) * (U : Int))) : fv c * nq den = -nq num := by
  have h1 := fv_mul c
  have h2 : (uv c : Rat) * nq den = -(nq num * Uq) := by
    have e1 : ((uv c * (den : Int) : Int) : Rat) = (uv c : Rat) * nq den := Rat.intCast_mul _ _
    have e2 : ((-((num : Int) * (U : Int)) : Int) : Rat) = -(nq num * Uq) := by rw [Rat.intCast_neg]; congr 1; exact Rat.intCast_mul _ _
    rw [← e1, h, e2]
  have h3 : (fv c * nq den + nq num) * Uq = 0 := by grind
  have := Uq_ne
  rcases Rat.mul_eq_zero.1 h3 with h4 | h4
  · grind
  · grind

theorem Uq_big : nq (2 ^ 100) ≤ Uq := by
  have h : nq (2 ^ 100) ≤ nq (2 ^ K) := nq_le.2 (Nat.pow_le_pow_right (by omega) (by rw [K_eq]; omega))
  exact h
theorem eta_small : 0 ≤ eta ∧ eta * nq (2 ^ 100) ≤ 1 := by
  have h1 := Uq_big
  have h2 := Uq_pos
  have h3 : eta * (2 * Uq) = 1 := by unfold eta; exact div_cancel (by grind)
  have h4 : 0 ≤ eta := by
    have : (0 : Rat) < 2 * Uq := by grind
    refine le_of_mul_le this ?_
    rw [h3]; grind
  refine ⟨h4, ?_⟩
  have := Rat.mul_le_mul_of_nonneg_left h1 h4
  have h5 : eta * Uq ≤ 1 := by
    have := Rat.mul_nonneg h4 (Rat.le_of_lt h2)
    grind
  exact Rat.le_trans this h5
theorem eta_lt : eta ≤ 1 / 1000000000000000000000000000000 := by
  obtain ⟨h0, h1⟩ := eta_small
  have h2 : nq (2 ^ 100) = 1267650600228229401496703205376 := rfl
  rw [h2] at h1
  grind

theorem mul_bd {a b A B : Rat} (h1 : -A ≤ a) (h2 : a ≤ A) (h3 : -B ≤ b) (h4 : b ≤ B) : -(A * B) ≤ a * b ∧ a * b ≤ A * B := by
  have p1 := Rat.mul_nonneg (show 0 ≤ A - a by grind) (show 0 ≤ B - b by grind)
  have p2 := Rat.mul_nonneg (show 0 ≤ A + a by grind) (show 0 ≤ B + b by grind)
  have p3 := Rat.mul_nonneg (show 0 ≤ A - a by grind) (show 0 ≤ B + b by grind)
  have p4 := Rat.mul_nonneg (show 0 ≤ A + a by grind) (show 0 ≤ B - b by grind)
  constructor <;> grind

/-- Within whole bounds. -/
theorem Rd.bd {q : Rat} {r : Nat} (h : Rd q r) (n : Nat) (hn : n ≤ 9007199254740992) (h1 : -nq n ≤ q) (h2 : q ≤ nq n) : isF r ∧ -nq n ≤ fv r ∧ fv r ≤ nq n ∧ fv r - q ≤ nq n * eps + eta ∧ q - fv r ≤ nq n * eps + eta := by
  obtain ⟨f1, v1⟩ := fv_wz (z := (n : Int)) (by omega)
  obtain ⟨f2, v2⟩ := fv_wz (z := -(n : Int)) (by omega)
  have e1 : fv (wz (n : Int)) = nq n := v1
  have e2 : fv (wz (-(n : Int))) = -nq n := by rw [v2, Rat.intCast_neg]; rfl
  have hf := h.fin _ _ f2 f1 (by rw [e2]; exact h1) (by rw [e1]; exact h2)
  have a := h.ge _ f2 hf (by rw [e2]; exact h1)
  have b := h.le _ f1 hf (by rw [e1]; exact h2)
  rw [e2] at a
  rw [e1] at b
  exact ⟨hf, a, b, h.near _ h1 h2 hf⟩

def cL : Nat := 4609176140021203710
def cHi : Nat := 4604418534312771584
def cLo : Nat := 4455313330490472685
def cH5 : Nat := 4602678819172646912

theorem lits : isF cL ∧ isF cHi ∧ isF cLo ∧ isF cH5 ∧ fv cL * 2251799813685248 = 3248660424278399 ∧ fv cHi * 8589934592 = 5954088943 ∧ fv cLo * 77371252455336267181195264 = 5756898648422637 ∧ fv cH5 * 2 = 1 := by
  have a := fv_lit (c := cL) (den := 2251799813685248) (num := 3248660424278399) (by decide +kernel)
  have b := fv_lit (c := cHi) (den := 8589934592) (num := 5954088943) (by decide +kernel)
  have c := fv_lit (c := cLo) (den := 77371252455336267181195264) (num := 5756898648422637) (by decide +kernel)
  have d := fv_lit (c := cH5) (den := 2) (num := 1) (by decide +kernel)
  exact ⟨isF_small (by decide), isF_small (by decide), isF_small (by decide), isF_small (by decide), a, b, c, d⟩

def expB (x : Nat) : Nat := fadd (fmul x cL) cH5
def expKf (x : Nat) : Nat := ffloor (expB x)
def expR (x : Nat) : Nat := fsub (fsub x (fmul (expKf x) cHi)) (fmul (expKf x) cLo)
/-- The series after j steps. -/
def expSer (r : Nat) : Nat → Nat
  | 0 => w1
  | j + 1 => fadd w1 (fdiv (fmul r (expSer r j)) (wz (14 - (j : Int))))

/-- What is left behind the whole multiples. -/
theorem exp_left {x : Nat} (hx : isF x) (x1 : -746 ≤ fv x) (x2 : fv x ≤ 710) : isF (expB x) ∧ -1080 ≤ flI (expB x) ∧ flI (expB x) ≤ 1080 ∧ isF (expR x) ∧ -(1 / 2) ≤ fv (expR x) ∧ fv (expR x) ≤ 1 / 2 := by
  obtain ⟨fL, fH, fO, f5, vL, vH, vO, v5⟩ := lits
  have hη := eta_lt
  have hη0 := eta_small.1
  have hε : eps * 4503599627370496 = 1 := by unfold eps; grind
  have L1 : fv cL ≤ 1443 / 1000 := by grind
  have L0 : -(1443 / 1000) ≤ fv cL := by grind
  have H1 : fv cHi ≤ 7 / 10 := by grind
  have H0 : 0 ≤ fv cHi := by grind
  have O1 : fv cLo ≤ 1 / 10000000000 := by grind
  have O0 : 0 ≤ fv cLo := by grind
  have P : fv cL * (fv cHi + fv cLo) - 1 ≤ 1 / 1000000000000000 ∧ -(1 / 1000000000000000) ≤ fv cL * (fv cHi + fv cLo) - 1 := by
    have eL : fv cL = 3248660424278399 / 2251799813685248 := by grind
    have eH : fv cHi = 5954088943 / 8589934592 := by grind
    have eO : fv cLo = 5756898648422637 / 77371252455336267181195264 := by grind
    rw [eL, eH, eO]
    constructor <;> decide +kernel
  obtain ⟨X, hX⟩ : ∃ X, X = fv x := ⟨_, rfl⟩
  have n1100 : nq 1100 = 1100 := rfl
  have n1200 : nq 1200 = 1200 := rfl
  have n2000 : nq 2000 = 2000 := rfl
  have n3000 : nq 3000 = 3000 := rfl
  -- x / ln 2
  have q1 := mul_bd (A := 746) (B := 1443 / 1000) (show -746 ≤ fv x by grind) (show fv x ≤ 746 by grind) L0 L1
  obtain ⟨fa, a1, a2, a3, a4⟩ := (mul_rd hx fL).bd 1100 (by omega) (by rw [n1100]; grind) (by rw [n1100]; grind)
  obtain ⟨fb, b1, b2, b3, b4⟩ := (add_rd fa f5).bd 1200 (by omega) (by rw [n1200]; rw [n1100] at a1; grind) (by rw [n1200]; rw [n1100] at a2; grind)
  have hb : expB x = fadd (fmul x cL) cH5 := rfl
  rw [← hb] at fb b1 b2 b3 b4
  rw [n1100] at a3 a4
  rw [n1200] at b3 b4
  have k1 := flI_le (expB x)
  have k2 := lt_flI (expB x)
  obtain ⟨fk, vk⟩ := floor_rat fb
  have hk : expKf x = ffloor (expB x) := rfl
  rw [← hk] at fk vk
  obtain ⟨κ, hκ⟩ : ∃ κ : Rat, κ = ((flI (expB x) : Int) : Rat) := ⟨_, rfl⟩
  rw [← hκ] at k1 k2 vk
  -- X L is κ up to a half and a little
  have d1 : fv x * fv cL - κ ≤ 501 / 1000 := by grind
  have d2 : -(501 / 1000) ≤ fv x * fv cL - κ := by grind
  have κ1 : κ ≤ 1078 := by grind
  have κ2 : -1078 ≤ κ := by grind
  -- the multiples
  have q2 := mul_bd (A := 1080) (B := 7 / 10) (show -1080 ≤ fv (expKf x) by rw [vk]; grind) (show fv (expKf x) ≤ 1080 by rw [vk]; grind) (show -(7 / 10) ≤ fv cHi by grind) H1
  obtain ⟨fh, h1, h2, h3, h4⟩ := (mul_rd fk fH).bd 1100 (by omega) (by rw [n1100]; grind) (by rw [n1100]; grind)
  rw [n1100] at h1 h2 h3 h4
  obtain ⟨fd, e1, e2, e3, e4⟩ := (sub_rd hx fh).bd 2000 (by omega) (by rw [n2000]; grind) (by rw [n2000]; grind)
  rw [n2000] at e1 e2 e3 e4
  have q3 := mul_bd (A := 1080) (B := 1 / 10000000000) (show -1080 ≤ fv (expKf x) by rw [vk]; grind) (show fv (expKf x) ≤ 1080 by rw [vk]; grind) (show -(1 / 10000000000) ≤ fv cLo by grind) O1
  obtain ⟨fl, l1, l2, l3, l4⟩ := (mul_rd fk fO).bd 1 (by omega) (by show -1 ≤ _; grind) (by show _ ≤ 1; grind)
  have n1 : nq 1 = 1 := rfl
  rw [n1] at l1 l2 l3 l4
  obtain ⟨fr, r1, r2, r3, r4⟩ := (sub_rd fd fl).bd 3000 (by omega) (by rw [n3000]; grind) (by rw [n3000]; grind)
  rw [n3000] at r3 r4
  have hr : expR x = fsub (fsub x (fmul (expKf x) cHi)) (fmul (expKf x) cLo) := rfl
  rw [← hr] at fr r1 r2 r3 r4
  rw [vk] at h3 h4 l3 l4
  -- what is left, exactly
  have s1 := mul_bd (A := 746) (B := 1 / 1000000000000000) (show -746 ≤ fv x by grind) (show fv x ≤ 746 by grind) P.2 P.1
  have s2 := mul_bd (A := 501 / 1000) (B := 7001 / 10000) d2 d1 (show -(7001 / 10000) ≤ fv cHi + fv cLo by grind) (show fv cHi + fv cLo ≤ 7001 / 10000 by grind)
  have key : fv x - κ * fv cHi - κ * fv cLo = (fv x * fv cL - κ) * (fv cHi + fv cLo) - fv x * (fv cL * (fv cHi + fv cLo) - 1) := by grind
  have i1 : -1080 ≤ flI (expB x) := by
    have : ((-1080 : Int) : Rat) ≤ ((flI (expB x) : Int) : Rat) := by rw [← hκ]; show (-1080 : Rat) ≤ κ; grind
    exact Rat.intCast_le_intCast.1 this
  have i2 : flI (expB x) ≤ 1080 := by
    have : ((flI (expB x) : Int) : Rat) ≤ ((1080 : Int) : Rat) := by rw [← hκ]; show κ ≤ (1080 : Rat); grind
    exact Rat.intCast_le_intCast.1 this
  refine ⟨fb, i1, i2, fr, ?_, ?_⟩
  · grind
  · grind

def c34 : Nat := 4604930618986332160
def n34 : Nat := 13828302655841107968
def c12 : Nat := 4602678819172646912
def c32 : Nat := 4609434218613702656
def c14 : Nat := 4598175219545276416
def c74 : Nat := 4610560118520545280
theorem lits2 : isF c34 ∧ isF n34 ∧ isF c12 ∧ isF c32 ∧ isF c14 ∧ isF c74 ∧ fv c34 * 4 = 3 ∧ fv n34 * 4 = -3 ∧ fv c12 * 2 = 1 ∧ fv c32 * 2 = 3 ∧ fv c14 * 4 = 1 ∧ fv c74 * 4 = 7 := by
  refine ⟨isF_small (by decide), ?_, isF_small (by decide), isF_small (by decide), isF_small (by decide), isF_small (by decide), ?_, ?_, ?_, ?_, ?_, ?_⟩
  · unfold isF; decide
  · exact fv_lit (c := c34) (den := 4) (num := 3) (by decide +kernel)
  · exact fv_neg_lit (c := n34) (den := 4) (num := 3) (by decide +kernel)
  · exact fv_lit (c := c12) (den := 2) (num := 1) (by decide +kernel)
  · exact fv_lit (c := c32) (den := 2) (num := 3) (by decide +kernel)
  · exact fv_lit (c := c14) (den := 4) (num := 1) (by decide +kernel)
  · exact fv_lit (c := c74) (den := 4) (num := 7) (by decide +kernel)

/-- One step of the series. -/
theorem ser_step {r s : Nat} (hr : isF r) (r1 : -(1 / 2) ≤ fv r) (r2 : fv r ≤ 1 / 2) (hs : isF s) (s1 : 1 / 2 ≤ fv s) (s2 : fv s ≤ 3 / 2) (i : Int) (i1 : 1 ≤ i) (i2 : i ≤ 100) :
    isF (fadd w1 (fdiv (fmul r s) (wz i))) ∧ (2 ≤ i → 1 / 2 ≤ fv (fadd w1 (fdiv (fmul r s) (wz i))) ∧ fv (fadd w1 (fdiv (fmul r s) (wz i))) ≤ 3 / 2) ∧ 1 / 4 ≤ fv (fadd w1 (fdiv (fmul r s) (wz i))) ∧ fv (fadd w1 (fdiv (fmul r s) (wz i))) ≤ 7 / 4 := by
  obtain ⟨f34, g34, f12, f32, f14, f74, v34, u34, v12, v32, v14, v74⟩ := lits2
  obtain ⟨fw, vw⟩ := fv_one
  obtain ⟨fi, vi⟩ := fv_wz (z := i) (by omega)
  have p := mul_bd (A := 1 / 2) (B := 3 / 2) r1 r2 (show -(3 / 2) ≤ fv s by grind) s2
  have hp := mul_rd hr hs
  have fp : isF (fmul r s) := hp.fin n34 c34 g34 f34 (by grind) (by grind)
  have p1 := hp.ge n34 g34 fp (by grind)
  have p2 := hp.le c34 f34 fp (by grind)
  have iq : (1 : Rat) ≤ ((i : Int) : Rat) := by
    have := Rat.intCast_le_intCast.2 i1
    exact this
  have ui : uv (wz i) ≠ 0 := fun h => by
    have : fv (wz i) = 0 := by unfold fv; rw [h]; grind
    grind
  have hd := div_rd fp fi ui
  rw [vi] at hd
  generalize fmul r s = P at *
  have ip : (0 : Rat) < ((i : Int) : Rat) := by grind
  have hcan : fv P / ((i : Int) : Rat) * ((i : Int) : Rat) = fv P := div_cancel ip
  have d1 : fv P / ((i : Int) : Rat) ≤ 3 / 4 := by
    refine le_of_mul_le ip ?_
    rw [hcan]; grind
  have d2 : -(3 / 4) ≤ fv P / ((i : Int) : Rat) := by
    refine le_of_mul_le ip ?_
    rw [hcan]; grind
  have d3 : 2 ≤ i → fv P / ((i : Int) : Rat) ≤ 3 / 8 := fun h => by
    have : (2 : Rat) ≤ ((i : Int) : Rat) := Rat.intCast_le_intCast.2 h
    refine le_of_mul_le ip ?_
    rw [hcan]; grind
  have d4 : 2 ≤ i → -(3 / 8) ≤ fv P / ((i : Int) : Rat) := fun h => by
    have : (2 : Rat) ≤ ((i : Int) : Rat) := Rat.intCast_le_intCast.2 h
    refine le_of_mul_le ip ?_
    rw [hcan]; grind
  obtain ⟨fq, _, _, _, _⟩ := hd.bd 1 (by omega) (by show -1 ≤ _; grind) (by show _ ≤ 1; grind)
  have q1 := hd.ge n34 g34 fq (by grind)
  have q2 := hd.le c34 f34 fq (by grind)
  have nr := hd.near (3 / 4) d2 d1 fq
  generalize fdiv P (wz i) = D at *
  have ha := add_rd fw fq
  obtain ⟨fa, _, _, _, _⟩ := ha.bd 2 (by omega) (by show -2 ≤ _; grind) (by show _ ≤ 2; grind)
  have hη := eta_lt
  have hε : eps * 4503599627370496 = 1 := by unfold eps; grind
  refine ⟨fa, fun h2 => ⟨?_, ?_⟩, ?_, ?_⟩
  · have := ha.ge c12 f12 fa (by have := d4 h2; grind)
    grind
  · have := ha.le c32 f32 fa (by have := d3 h2; grind)
    grind
  · have := ha.ge c14 f14 fa (by grind)
    grind
  · have := ha.le c74 f74 fa (by grind)
    grind

theorem ser_in {r : Nat} (hr : isF r) (r1 : -(1 / 2) ≤ fv r) (r2 : fv r ≤ 1 / 2) : ∀ j : Nat, j ≤ 13 → isF (expSer r j) ∧ 1 / 2 ≤ fv (expSer r j) ∧ fv (expSer r j) ≤ 3 / 2
  | 0, _ => by
    obtain ⟨fw, vw⟩ := fv_one
    refine ⟨fw, ?_, ?_⟩
    · show _ ≤ fv w1; grind
    · show fv w1 ≤ _; grind
  | j + 1, h => by
    obtain ⟨f, a, b⟩ := ser_in hr r1 r2 j (by omega)
    obtain ⟨g, c, _⟩ := ser_step hr r1 r2 f a b (14 - (j : Int)) (by omega) (by omega)
    exact ⟨g, c (by omega)⟩

theorem ser_end {r : Nat} (hr : isF r) (r1 : -(1 / 2) ≤ fv r) (r2 : fv r ≤ 1 / 2) : isF (expSer r 14) ∧ 1 / 4 ≤ fv (expSer r 14) ∧ fv (expSer r 14) ≤ 7 / 4 := by
  obtain ⟨f, a, b⟩ := ser_in hr r1 r2 13 (by omega)
  obtain ⟨g, _, c⟩ := ser_step hr r1 r2 f a b (14 - ((13 : Nat) : Int)) (by omega) (by omega)
  exact ⟨g, c⟩

theorem roundU_lt (z : Bool) (n : Int) : roundU z n < 18446744073709551616 := by
  unfold roundU
  have e : (-1074 : Int) = -1074 - ((0 : Nat) : Int) := rfl
  rw [e, nearest_word, word_eq]
  have := nrung_top n.natAbs 0
  generalize (if n = 0 then z else decide (n < 0)) = b
  cases b <;> simp <;> omega
theorem fadd_lt {x y : Nat} (hx : isF x) (hy : isF y) : fadd x y < 18446744073709551616 := by
  rw [add_fin hx hy]; exact roundU_lt _ _

/-- The word of a number above zero. -/
theorem word_pos {x : Nat} (h64 : x < 18446744073709551616) (hf : isF x) (h : 0 < fv x) : x < 9218868437227405312 := by
  have hs : sgn x = false := by
    cases hs : sgn x
    · rfl
    · exfalso
      have := fa_nonneg x
      have h2 := fv_fa x
      rw [hs, if_pos rfl] at h2
      grind
  unfold isF rung at hf
  unfold sgn at hs
  simp at hs
  omega

/-- The series ends as a normal word near one. -/
theorem ser_word {r : Nat} (hr : isF r) (r1 : -(1 / 2) ≤ fv r) (r2 : fv r ≤ 1 / 2) : ∃ E low, expSer r 14 = E * 4503599627370496 + low ∧ low < 4503599627370496 ∧ 1021 ≤ E ∧ E ≤ 1023 := by
  obtain ⟨f, a, b⟩ := ser_end hr r1 r2
  obtain ⟨f34, g34, f12, f32, f14, f74, v34, u34, v12, v32, v14, v74⟩ := lits2
  have h64 : expSer r 14 < 18446744073709551616 := by
    obtain ⟨f13, a13, b13⟩ := ser_in hr r1 r2 13 (by omega)
    obtain ⟨fw, vw⟩ := fv_one
    have hs : expSer r 14 = fadd w1 (fdiv (fmul r (expSer r 13)) (wz (14 - ((13 : Nat) : Int)))) := rfl
    rw [hs]
    -- the quotient is finite
    have p := mul_bd (A := 1 / 2) (B := 3 / 2) r1 r2 (show -(3 / 2) ≤ fv (expSer r 13) by grind) b13
    have hp := mul_rd hr f13
    have fp : isF (fmul r (expSer r 13)) := hp.fin n34 c34 g34 f34 (by grind) (by grind)
    have p1 := hp.ge n34 g34 fp (by grind)
    have p2 := hp.le c34 f34 fp (by grind)
    obtain ⟨fi, vi⟩ := fv_wz (z := 14 - ((13 : Nat) : Int)) (by omega)
    have e1 : (((14 - ((13 : Nat) : Int) : Int)) : Rat) = 1 := rfl
    rw [e1] at vi
    have ui : uv (wz (14 - ((13 : Nat) : Int))) ≠ 0 := fun h => by
      have : fv (wz (14 - ((13 : Nat) : Int))) = 0 := by unfold fv; rw [h]; grind
      grind
    have hd := div_rd fp fi ui
    rw [vi] at hd
    have e2 : fv (fmul r (expSer r 13)) / 1 = fv (fmul r (expSer r 13)) := by grind
    rw [e2] at hd
    have fq : isF (fdiv (fmul r (expSer r 13)) (wz (14 - ((13 : Nat) : Int)))) := hd.fin n34 c34 g34 f34 (by grind) (by grind)
    exact fadd_lt fw fq
  have hw := word_pos h64 f (by grind)
  generalize expSer r 14 = S at *
  have u1 : fv c14 ≤ fv S := by grind
  have u2 : fv S ≤ fv c74 := by grind
  have e1 := uv_lt_iff f f14
  have e2 := uv_lt_iff f74 f
  rw [fv_le] at u1 u2
  rw [pl_fin f, pl_fin f14, sgn_small (x := S) (by omega), sgn_small (x := c14) (by decide), rung_small (x := S) (by omega), rung_small (x := c14) (by decide)] at e1
  rw [pl_fin f, pl_fin f74, sgn_small (x := S) (by omega), sgn_small (x := c74) (by decide), rung_small (x := S) (by omega), rung_small (x := c74) (by decide)] at e2
  simp only [Bool.false_eq_true, if_false] at e1 e2
  have c1 : c14 ≤ S := by omega
  have c2 : S ≤ c74 := by omega
  have d1 : c14 = 1021 * 4503599627370496 := by decide
  have d2 : c74 < 1024 * 4503599627370496 := by decide
  exact ⟨S / 4503599627370496, S % 4503599627370496, by omega, by omega, by omega, by omega⟩

def cTop : Nat := 4649454530587146735
def cLow : Nat := 13873137513782915154
/-- The significand that the series ends with, at its place. -/
def expW (x : Nat) : Nat := scW (4503599627370496 + expSer (expR x) 14 % 4503599627370496) (((expSer (expR x) 14 / 4503599627370496 : Nat) : Int) + flI (expB x))
/-- e to the power x, of classes. -/
def expS (x : Nat) : Nat := if isN x = true then nanc else if (ford x cTop == some .gt) = true then pinf else if (ford x cLow == some .lt) = true then 0 else expW x

theorem exp_dom {x : Nat} (h : isN x = false) (h1 : (ford x cTop == some .gt) = false) (h2 : (ford x cLow == some .lt) = false) : isF x ∧ -746 ≤ fv x ∧ fv x ≤ 710 := by
  have n0 : isN cLow = false := by decide +kernel
  have n1 : isN cTop = false := by decide +kernel
  have f0 : isF cLow := by unfold isF; decide
  have f1 : isF cTop := by unfold isF; decide
  have a1 : pl cLow ≤ pl x := by
    rw [ford_pl h n0] at h2
    rcases Int.lt_or_le (pl x) (pl cLow) with h3 | h3
    · rw [Std.compare_eq_lt.2 h3] at h2; simp at h2
    · exact h3
  have a2 : pl x ≤ pl cTop := by
    rw [ford_pl h n1] at h1
    rcases Int.lt_or_le (pl cTop) (pl x) with h3 | h3
    · rw [Std.compare_eq_gt.2 h3] at h1; simp at h1
    · exact h3
  have hf := isF_of_pl h f0 f1 a1 a2
  have v0 : fv cLow * 4398046511104 = -3277130554578985 := fv_neg_lit (c := cLow) (den := 4398046511104) (num := 3277130554578985) (by decide +kernel)
  have v1 : fv cTop * 8796093022208 = 6243314768165359 := fv_lit (c := cTop) (den := 8796093022208) (num := 6243314768165359) (by decide +kernel)
  have b1 : fv cLow ≤ fv x := by
    rw [fv_le]
    have := uv_lt_iff hf f0
    omega
  have b2 : fv x ≤ fv cTop := by
    rw [fv_le]
    have := uv_lt_iff f1 hf
    omega
  refine ⟨hf, ?_, ?_⟩ <;> grind

theorem expKf_conv {x r : Nat} (hx : isF x) (x1 : -746 ≤ fv x) (x2 : fv x ≤ 710) (hr : cn r = expKf x) : floatToIntVal .f64 r .i64 = some (flI (expB x)) := by
  obtain ⟨fb, k1, k2, _⟩ := exp_left hx x1 x2
  obtain ⟨f1, f2⟩ := ffloor_fin fb
  have hrr : r = expKf x := by
    have h2 : isN r = false := by rw [← isN_cn, hr]; exact isF_notN f1
    rw [← hr, cn_of_notN h2]
  have hU : (0 : Int) < (U : Int) := by have := U_pos; omega
  have e : uv (expKf x) = flI (expB x) * (U : Int) := f2
  have f1' : isF (expKf x) := f1
  rw [hrr, toIntVal_fin (lo := -1080) (hi := 1080) f1' ?_ ?_ (by omega) (by omega)]
  · rw [e, Int.mul_tdiv_cancel _ (by omega)]
  · rw [e]; exact Int.mul_le_mul_of_nonneg_right k1 (Int.le_of_lt hU)
  · rw [e]; exact Int.mul_le_mul_of_nonneg_right k2 (Int.le_of_lt hU)

end Go.Fl

namespace Go.Fl
def hB : Nat := 4604544271217802189
end Go.Fl
namespace Go.Proofs.YtmmfjknnbkcniaaGreatDoor
open Go.Fl Go.Rel Go.RowKit

theorem half_any (w : World) : Calls Tryz.prog 142 #[] w fun e w' => e = .returned (.float .f64 hB) ∧ w = w' := by
  have hr := frombits_run 4604544271217802189 w
  go_enter Tryz.func142, Tryz.ntmps142
  go_wp2_with (simp only [hr])
  go_ret
  exact ⟨rfl, rfl⟩

end Go.Proofs.YtmmfjknnbkcniaaGreatDoor

namespace Go.Proofs.YtmmfjknnbkcniaaGreatDoor
open Go.Fl Go.Rel Go.RowKit
set_option linter.unusedSimpArgs false
set_option linter.unusedVariables false

theorem and_2047 (S E low : Nat) (hS : S = E * 4503599627370496 + low) (hl : low < 4503599627370496) (hE : E ≤ 2046) : bits .and .u64 ((S : Int) / 4503599627370496) 2047 = (E : Int) := by
  have e : (S : Int) / 4503599627370496 = (E : Int) := by omega
  rw [e]
  have := u64_and_nat E 2047 (by omega) (by omega)
  rw [nat_mask11, Nat.mod_eq_of_lt (by omega)] at this
  exact this
theorem and_low (S E low : Nat) (hS : S = E * 4503599627370496 + low) (hl : low < 4503599627370496) (hE : E ≤ 2046) : bits .and .u64 (S : Int) 4503599627370495 = (low : Int) := by
  have := u64_and_nat S 4503599627370495 (by omega) (by omega)
  have e : S &&& 4503599627370495 = S % 4503599627370496 := Nat.and_two_pow_sub_one_eq_mod S 52
  rw [e, hS, show (E * 4503599627370496 + low) % 4503599627370496 = low by omega] at this
  rw [hS]
  exact this
theorem or_low (F low : Nat) (hl : low < 4503599627370496) (hF : F ≤ 2046) : bits .or .u64 ((F : Int) * 4503599627370496) (low : Int) = (F : Int) * 4503599627370496 + low := by
  have := u64_or_nat (F * 4503599627370496) low (by omega) (by omega)
  rw [nat_join 52 (F * 4503599627370496) low (by omega) (by omega)] at this
  rw [Int.natCast_add, Int.natCast_mul] at this
  exact this
theorem or_one (low : Nat) (hl : low < 4503599627370496) : bits .or .u64 (low : Int) 4503599627370496 = ((4503599627370496 + low : Nat) : Int) := by
  have := u64_or_nat low 4503599627370496 (by omega) (by omega)
  rw [Nat.or_comm, nat_join 52 4503599627370496 low (by decide) (by omega)] at this
  exact this

set_option maxRecDepth 100000 in
theorem scaled_any (S E low : Nat) (k : Int) (w : World) (hS : S = E * 4503599627370496 + low) (hl : low < 4503599627370496) (h1 : 1 ≤ E) (h2 : E ≤ 2046) (k1 : -5000 ≤ k) (k2 : k ≤ 5000) :
    Calls Tryz.prog 118 #[.float .f64 S, .int .i64 k] w fun e w' => e = .returned (.float .f64 (scW (4503599627370496 + low) ((E : Int) + k))) ∧ w = w' := by
  have hb := bits_run S
  have hb1 := and_2047 S E low hS hl h2
  have hb2 := and_low S E low hS hl h2
  obtain ⟨f, hf⟩ : ∃ f, (E : Int) + k = f := ⟨_, rfl⟩
  rw [hf]
  by_cases c1 : 2047 ≤ f
  · have d1 : decide (2047 ≤ f) = true := decide_eq_true c1
    rw [scW_top c1]
    clear hS c1
    go_enter Tryz.func118, Tryz.ntmps118
    go_wp2_with (first | simp only [hb] | (go_at_call 110; refine (inf_up _).mono ?_; rintro e w' ⟨rfl, rfl⟩))
    go_ret
    exact ⟨rfl, rfl⟩
  have d1 : decide (2047 ≤ f) = false := decide_eq_false c1
  by_cases c2 : 1 ≤ f
  · have d2 : decide (1 ≤ f) = true := decide_eq_true c2
    obtain ⟨F, rfl⟩ : ∃ F : Nat, f = (F : Int) := ⟨f.toNat, by omega⟩
    rw [scW_norm hl rfl (by omega) (by omega)]
    have hb3 := or_low F low hl (by omega)
    have hfr := frombits_run ((F : Int) * 4503599627370496 + low)
    rw [show ((F : Int) * 4503599627370496 + low).toNat = F * 4503599627370496 + low by omega] at hfr
    have F1 : (1 : Int) ≤ (F : Int) := by omega
    have F2 : (F : Int) ≤ 2046 := by omega
    clear hS c1 c2
    go_enter Tryz.func118, Tryz.ntmps118
    go_wp2_with (first | simp only [hb] | simp only [hfr])
    go_ret
    exact ⟨rfl, rfl⟩
  have d2 : decide (1 ≤ f) = false := decide_eq_false c2
  by_cases c3 : f < -53
  · have d3 : decide (f < -53) = true := decide_eq_true c3
    rw [scW_none hl c3]
    clear hS c1 c2 c3
    go_enter Tryz.func118, Tryz.ntmps118
    go_wp2_with (first | simp only [hb])
    go_ret
    exact ⟨rfl, rfl⟩
  have d3 : decide (f < -53) = false := decide_eq_false c3
  obtain ⟨d, hd⟩ : ∃ d : Nat, 1 - f = (d : Int) := ⟨(1 - f).toNat, by omega⟩
  rw [scW_sub (d := d) hl (by omega) (by omega) (by omega)]
  have hb3 := or_one low hl
  obtain ⟨M, hM⟩ : ∃ M, M = 4503599627370496 + low := ⟨_, rfl⟩
  rw [← hM] at hb3 ⊢
  have hM2 : M < 9007199254740992 := by omega
  have hdd : d ≤ 54 := by omega
  have hd1 : 1 ≤ d := by omega
  have i1 : (1 : Int) ≤ (d : Int) := by omega
  have i2 : (d : Int) ≤ 54 := by omega
  obtain ⟨q, hq0⟩ : ∃ q, q = M / 2 ^ d := ⟨_, rfl⟩
  obtain ⟨rs, hrs0⟩ : ∃ rs, rs = M % 2 ^ d := ⟨_, rfl⟩
  obtain ⟨md, hmd0⟩ : ∃ md, md = 2 ^ (d - 1) := ⟨_, rfl⟩
  have hp54 : 2 ^ d ≤ 2 ^ 54 := Nat.pow_le_pow_right (by omega) hdd
  have hp53 : 2 ^ (d - 1) ≤ 2 ^ 53 := Nat.pow_le_pow_right (by omega) (by omega)
  have e54 : (2 : Nat) ^ 54 = 18014398509481984 := by decide
  have e53 : (2 : Nat) ^ 53 = 9007199254740992 := by decide
  have hq : (M : Int) / 2 ^ d = (q : Int) := by rw [hq0]; simp
  have hw0 : ((2 : Int) ^ d) = ((2 ^ d : Nat) : Int) := by simp
  have hp := Nat.two_pow_pos d
  have hr : bits .and .u64 (M : Int) (IntKind.u64.wrap (IntKind.u64.wrap (2 ^ d) - 1)) = (rs : Int) := by
    rw [hw0, show IntKind.u64.wrap ((2 ^ d : Nat) : Int) = ((2 ^ d : Nat) : Int) by rw [IntKind.wrap_u64]; omega, show ((2 ^ d : Nat) : Int) - 1 = ((2 ^ d - 1 : Nat) : Int) by omega,
      show IntKind.u64.wrap ((2 ^ d - 1 : Nat) : Int) = ((2 ^ d - 1 : Nat) : Int) by rw [IntKind.wrap_u64]; omega, u64_and_nat M (2 ^ d - 1) (by omega) (by omega), Nat.and_two_pow_sub_one_eq_mod, hrs0]
  have hm : IntKind.u64.wrap (2 ^ (d - 1)) = (md : Int) := by
    have : ((2 : Int) ^ (d - 1)) = ((2 ^ (d - 1) : Nat) : Int) := by simp
    rw [this, hmd0, IntKind.wrap_u64]; omega
  rw [← hq0, ← hrs0, ← hmd0]
  have hqb : q ≤ 9007199254740992 := by rw [hq0]; exact Nat.le_trans (Nat.div_le_self _ _) (by omega)
  have f0 := frombits_run (q : Int)
  have f1 := frombits_run ((q : Int) + 1)
  rw [Int.toNat_natCast] at f0
  rw [show ((q : Int) + 1).toNat = q + 1 by omega] at f1
  have q1 : (0 : Int) ≤ (q : Int) := by omega
  have q2 : (q : Int) ≤ 9007199254740992 := by omega
  clear hS c1 c2 c3 hM hM2 hp54 hp53 e54 e53 hw0 hp hq0 hrs0 hmd0 hdd hd1
  by_cases g1 : md < rs
  · have d4 : decide (md < rs) = true := decide_eq_true g1
    rw [decide_eq_true g1]
    clear g1
    go_enter Tryz.func118, Tryz.ntmps118
    go_wp2_with (first | simp only [hb] | simp only [f1])
    go_ret
    exact ⟨rfl, rfl⟩
  · have d4 : decide (md < rs) = false := decide_eq_false g1
    rw [decide_eq_false g1]
    by_cases g2 : rs = md
    · have d5 : ((rs : Int) == (md : Int)) = true := by simp; omega
      by_cases g3 : q % 2 = 1
      · have d6 : ((q : Int) % 2 == 1) = true := by simp; omega
        have e0 : (rs == md && q % 2 == 1) = true := by rw [g2, g3]; simp
        rw [e0]
        clear g1 g2 g3 e0
        go_enter Tryz.func118, Tryz.ntmps118
        go_wp2_with (first | simp only [hb] | simp only [f1])
        go_ret
        exact ⟨rfl, rfl⟩
      · have d6 : ((q : Int) % 2 == 1) = false := by simp; omega
        have e0 : (rs == md && q % 2 == 1) = false := by simp [g3]
        rw [e0]
        clear g1 g2 g3 e0
        go_enter Tryz.func118, Tryz.ntmps118
        go_wp2_with (first | simp only [hb] | simp only [f0])
        go_ret
        exact ⟨rfl, rfl⟩
    · have d5 : ((rs : Int) == (md : Int)) = false := by simp; omega
      have e0 : (rs == md && q % 2 == 1) = false := by simp [g2]
      rw [e0]
      clear g1 g2 e0
      go_enter Tryz.func118, Tryz.ntmps118
      go_wp2_with (first | simp only [hb] | simp only [f0])
      go_ret
      exact ⟨rfl, rfl⟩

theorem scW_notN (M : Nat) (e : Int) : cn (scW M e) = scW M e := cn_of_notN (write_not_nan (.number false M (e - 1075)) rfl)

end Go.Proofs.YtmmfjknnbkcniaaGreatDoor

namespace Go.Fl
open Ieee

def cHalf : Nat := 4604544271217802189
def cTwo : Nat := 4611686018427387904

/-- Twice a word. -/
def dbl (x : Nat) : Nat := if x < 4503599627370496 then 2 * x else x + 4503599627370496
/-- Half a normal word. -/
def hlf (x : Nat) : Nat := x - 4503599627370496

theorem units_dbl (x : Nat) : unitsOf (dbl x) = 2 * unitsOf x := by
  unfold dbl
  by_cases h : x < 4503599627370496
  · rw [if_pos h]
    have e1 : unitsOf x = x := by unfold unitsOf; rw [if_pos h]
    rw [e1]
    unfold unitsOf
    by_cases h2 : 2 * x < 4503599627370496
    · rw [if_pos h2]
    · rw [if_neg h2, show 2 * x / 4503599627370496 - 1 = 0 by omega, Nat.pow_zero]; omega
  · rw [if_neg h]
    unfold unitsOf
    rw [if_neg (by omega), if_neg h, show (x + 4503599627370496) % 4503599627370496 = x % 4503599627370496 by omega, show (x + 4503599627370496) / 4503599627370496 - 1 = (x / 4503599627370496 - 1) + 1 by omega, Nat.pow_succ]
    generalize 2 ^ (x / 4503599627370496 - 1) = g
    rw [← Nat.mul_assoc, Nat.mul_comm]
theorem units_hlf {x : Nat} (h : 9007199254740992 ≤ x) : 2 * unitsOf (hlf x) = unitsOf x := by
  rw [← units_dbl]
  unfold dbl hlf
  rw [if_neg (by omega)]
  congr 1
  omega

theorem nearest_small {r : Nat} (h : r < 9218868437227405312) : double.nearest false (unitsOf r) (-1074) = r := by
  rw [nearest_units false h, word_eq]; rfl

theorem units_two : unitsOf cTwo = 2 * 2 ^ K := by
  have h := (fv_wz (z := 2) (by decide)).2
  have e : cTwo = wz 2 := by decide +kernel
  have hw := (wz_read (z := 2) (by decide)).2.1
  rw [← e] at hw
  have hu : uv cTwo = (unitsOf cTwo : Int) := by unfold uv; rw [sgn_small (by decide), rung_small (by decide)]; rfl
  rw [hu] at hw
  have : ((U : Nat) : Int) = ((2 ^ K : Nat) : Int) := rfl
  rw [this] at hw
  generalize 2 ^ K = g at *
  omega

theorem fmul_two {x : Nat} (h : dbl x < 9218868437227405312) (hx : x < 9218868437227405312) : fmul x cTwo = dbl x := by
  rw [mul_fin (isF_small hx) (isF_small (by decide)), sgn_small (by omega), sgn_small (by decide), rung_small (by omega), rung_small (by decide), ← nearest_word, units_two]
  have e : unitsOf x * (2 * 2 ^ K) = unitsOf (dbl x) <<< K := by
    rw [units_dbl, Nat.shiftLeft_eq]
    generalize 2 ^ K = g
    ac_rfl
  rw [e, nearest_scale, show (-1074 - (K : Int) + (K : Int)) = -1074 by omega]
  exact nearest_small h

theorem fv_small {x : Nat} (h : x < 9218868437227405312) : fv x = nq (unitsOf x) / Uq := by
  rw [fv_fa, sgn_small (by omega)]; unfold fa; rw [rung_small (by omega)]; rfl

theorem fdiv_two {x : Nat} (h : 9007199254740992 ≤ x) (hx : x < 9218868437227405312) : fdiv x cTwo = hlf x := by
  have f2 : isF cTwo := isF_small (by decide)
  have fx := isF_small hx
  have e2 : cTwo = wz 2 := by decide +kernel
  have v2 : fv cTwo = 2 := by rw [e2]; exact (fv_wz (z := 2) (by decide)).2
  have u2 : uv cTwo ≠ 0 := fun h => by
    have : fv cTwo = 0 := by unfold fv; rw [h]; grind
    grind
  have hd := div_rd fx f2 u2
  rw [v2] at hd
  have hh : hlf x < 9218868437227405312 := by unfold hlf; omega
  have fh := isF_small hh
  have hv : fv (hlf x) = fv x / 2 := by
    rw [fv_small hh, fv_small hx, ← units_hlf h, nq_mul]
    have : nq 2 = 2 := rfl
    rw [this]; grind
  have fr : isF (fdiv x cTwo) := hd.fin _ _ fh fh (by rw [hv]; exact Rat.le_refl) (by rw [hv]; exact Rat.le_refl)
  have a := hd.ge _ fh fr (by rw [hv]; exact Rat.le_refl)
  have b := hd.le _ fh fr (by rw [hv]; exact Rat.le_refl)
  have huv : uv (fdiv x cTwo) = uv (hlf x) := Int.le_antisymm (fv_le.1 b) (fv_le.1 a)
  obtain ⟨m, n, p, q, _, _, _, _, hw⟩ := div_fin fx f2 u2
  rw [sgn_small (x := x) (by omega), sgn_small (x := cTwo) (by decide)] at hw
  generalize (2 * (m * 2 ^ (54 + n.log2 - m.log2) / n) + (m * 2 ^ (54 + n.log2 - m.log2) % n != 0).toNat) * 2 ^ (p + K) = A at hw
  generalize 54 + n.log2 - m.log2 + 1 + q = D at hw
  have ht := nrung_top A D
  have hw2 : fdiv x cTwo = nrung A D := by rw [hw, word_eq]; rfl
  rw [hw2] at fr huv ⊢
  have h1 : uv (nrung A D) = (unitsOf (nrung A D) : Int) := by unfold uv; rw [sgn_small (by omega), rung_small (by omega)]; rfl
  have h2 : uv (hlf x) = (unitsOf (hlf x) : Int) := by unfold uv; rw [sgn_small (by omega), rung_small (by omega)]; rfl
  rw [h1, h2] at huv
  exact unitsOf_inj (by omega)

/-- x is m times 2^e, m from half to twice half. -/
def LP (x m : Nat) (e : Int) : Prop := cHalf ≤ m ∧ m < dbl cHalf ∧ ∃ c d : Nat, unitsOf m * 2 ^ d = unitsOf x * 2 ^ c ∧ e = (d : Int) - (c : Int)

theorem lp_one {x m m' : Nat} {e e' : Int} (h : LP x m e) (h' : LP x m' e') : m = m' ∧ e = e' := by
  obtain ⟨a1, a2, c, d, hcd, rfl⟩ := h
  obtain ⟨b1, b2, c', d', hcd', rfl⟩ := h'
  have key : unitsOf m * 2 ^ (d + c') = unitsOf m' * 2 ^ (d' + c) := by
    rw [Nat.pow_add, Nat.pow_add, ← Nat.mul_assoc, ← Nat.mul_assoc, hcd, hcd']
    generalize 2 ^ c = p
    generalize 2 ^ c' = q
    ac_rfl
  have far : ∀ {m m' k l : Nat}, cHalf ≤ m → m' < dbl cHalf → unitsOf m * 2 ^ k = unitsOf m' * 2 ^ l → l < k → False := fun {m m' k l} h1 h2 h3 h4 => by
    have e1 : 2 ^ k = 2 ^ (k - l - 1) * 2 * 2 ^ l := by rw [← Nat.pow_succ, ← Nat.pow_add]; congr 1; omega
    have hp := Nat.two_pow_pos l
    have hp2 := Nat.two_pow_pos (k - l - 1)
    rw [e1, ← Nat.mul_assoc] at h3
    have h5 := Nat.eq_of_mul_eq_mul_right hp h3
    have u1 := unitsOf_le h1
    have u2 := unitsOf_lt h2
    rw [units_dbl] at u2
    have : unitsOf m * 2 ≤ unitsOf m * (2 ^ (k - l - 1) * 2) := Nat.mul_le_mul_left _ (by omega)
    omega
  have hd : d + c' = d' + c := by
    rcases Nat.lt_trichotomy (d + c') (d' + c) with h | h | h
    · exact (far b1 a2 key.symm h).elim
    · exact h
    · exact (far a1 b2 key h).elim
  rw [hd] at key
  have := Nat.eq_of_mul_eq_mul_right (Nat.two_pow_pos _) key
  exact ⟨unitsOf_inj this, by omega⟩

/-- The series' inner sum after j steps. -/
def serP (z : Nat) : Nat → Nat
  | 0 => 0
  | j + 1 => fmul z (fadd (fdiv w1 (wz (2 * (12 - (j : Int)) + 1))) (serP z j))
def lnS0 (m : Nat) : Nat := fdiv (fsub m w1) (fadd cTwo (fsub m w1))
/-- The series of a significand. -/
def lnSer (m : Nat) : Nat := fadd (fmul cTwo (lnS0 m)) (fmul (fmul cTwo (lnS0 m)) (serP (fmul (lnS0 m) (lnS0 m)) 12))

def lnV (m : Nat) (e : Int) : Nat := fadd (fmul (wz e) cHi) (fadd (lnSer m) (fmul (wz e) cLo))
/-- What the logarithms answer where there is no series. -/
def lnEdge (x : Nat) : Option Nat := if isN x = true then some nanc else if (ford x 0 == some .lt) = true then some nanc else if (ford x 0 == some .eq) = true then some ninf else if (ford x pinf == some .eq) = true then some pinf else none

theorem lnEdge_none {x : Nat} (h : lnEdge x = none) (h64 : x < 18446744073709551616) : 0 < x ∧ x < 9218868437227405312 := by
  unfold lnEdge at h
  split at h
  · cases h
  rename_i h1
  split at h
  · cases h
  rename_i h2
  split at h
  · cases h
  rename_i h3
  split at h
  · cases h
  rename_i h4
  have hx : isN x = false := by simpa using h1
  have n0 : isN 0 = false := by decide +kernel
  have np : isN pinf = false := by decide +kernel
  rw [ford_pl hx n0] at h2 h3
  rw [ford_pl hx np] at h4
  have p0 : pl 0 = 0 := by decide +kernel
  have pp : pl pinf = 9218868437227405312 := by decide +kernel
  rw [p0] at h2 h3
  rw [pp] at h4
  have b := pl_notN hx
  have kc : ∀ z : Int, compare z z = .eq := fun z => Std.ReflCmp.compare_self
  have g1 : 0 < pl x := by
    rcases Int.lt_trichotomy (pl x) 0 with g | g | g
    · rw [Std.compare_eq_lt.2 g] at h2; simp at h2
    · rw [g, kc] at h3; simp at h3
    · exact g
  have g2 : pl x ≠ 9218868437227405312 := fun g => by rw [g, kc] at h4; simp at h4
  unfold pl at g1 g2 b
  rw [hx] at g1 g2 b
  simp only [Bool.false_eq_true, if_false] at g1 g2 b
  have hr : rung x = x % 9223372036854775808 := rfl
  cases hs : sgn x
  · rw [hs] at g1 g2 b
    simp only [Bool.false_eq_true, if_false] at g1 g2 b
    unfold sgn at hs
    simp at hs
    omega
  · rw [hs] at g1
    simp only [if_true] at g1
    omega

/-- A subnormal number times 2^54. -/
theorem sub_scale {x : Nat} (h0 : 0 < x) (h1 : x < 4503599627370496) : ∃ E low, fmul x 4850376798678024192 = E * 4503599627370496 + low ∧ low < 4503599627370496 ∧ 3 ≤ E ∧ E ≤ 54 ∧ unitsOf (E * 4503599627370496 + low) = x * 2 ^ 54 := by
  have hx0 : x ≠ 0 := by omega
  obtain ⟨L, hL⟩ : ∃ L, L = x.log2 := ⟨_, rfl⟩
  have l1 : 2 ^ L ≤ x := by rw [hL]; exact Nat.log2_self_le hx0
  have l2 : x < 2 ^ (L + 1) := by rw [hL]; exact Nat.lt_log2_self
  have l3 : L < 52 := by rw [hL]; exact (Nat.log2_lt hx0).2 h1
  have e52 : (2 : Nat) ^ 52 = 4503599627370496 := by decide
  have p1 : 2 ^ L * 2 ^ (52 - L) = 4503599627370496 := by rw [← Nat.pow_add, show L + (52 - L) = 52 by omega]
  have p2 : 2 ^ (L + 1) * 2 ^ (52 - L) = 9007199254740992 := by rw [← Nat.pow_add, show L + 1 + (52 - L) = 53 by omega]
  have hp := Nat.two_pow_pos (52 - L)
  have m1 : 2 ^ L * 2 ^ (52 - L) ≤ x * 2 ^ (52 - L) := Nat.mul_le_mul_right _ l1
  have m2 : x * 2 ^ (52 - L) < 2 ^ (L + 1) * 2 ^ (52 - L) := Nat.mul_lt_mul_of_pos_right l2 hp
  rw [p1] at m1
  rw [p2] at m2
  obtain ⟨low, hlow⟩ : ∃ low, x * 2 ^ (52 - L) = 4503599627370496 + low := ⟨x * 2 ^ (52 - L) - 4503599627370496, by omega⟩
  have hl : low < 4503599627370496 := by omega
  have hu : unitsOf x = x := by unfold unitsOf; rw [if_pos h1]
  obtain ⟨J, hJ⟩ : ∃ J : Nat, J = 1077 := ⟨_, rfl⟩
  have hub := units_norm (E := J) (low := 0) (by omega) (by omega)
  have hJB : 4850376798678024192 = J * 4503599627370496 := by omega
  rw [Nat.add_zero, Nat.add_zero, ← hJB] at hub
  have hplace : -1074 - (K : Int) + ((52 + (J - 1) : Nat) : Int) = -1020 := by rw [K_eq]; omega
  have hplace2 : ((3 + L : Nat) : Int) - 1075 + ((52 - L : Nat) : Int) = -1020 := by omega
  clear hJ hJB
  generalize J - 1 = T at *
  have hmul : fmul x 4850376798678024192 = scW (4503599627370496 + low) ((3 + L : Nat) : Int) := by
    rw [mul_fin (isF_small (by omega)) (isF_small (by decide)), sgn_small (by omega), sgn_small (by decide), rung_small (by omega), rung_small (by decide), ← nearest_word, hu, hub]
    have e1 : x * (4503599627370496 * 2 ^ T) = x <<< (52 + T) := by
      rw [Nat.shiftLeft_eq, Nat.pow_add, e52]
    rw [e1, nearest_scale, hplace]
    unfold scW
    rw [← hlow, ← Nat.shiftLeft_eq, nearest_scale, hplace2]
    rfl
  clear hub hu
  refine ⟨3 + L, low, ?_, hl, by omega, by omega, ?_⟩
  · rw [hmul, scW_norm hl rfl (by omega) (by omega)]
  · rw [units_norm (by omega) hl, ← hlow, Nat.mul_assoc, ← Nat.pow_add]
    congr 2
    omega

theorem cn_small {x : Nat} (h : x < 9218868437227405312) : cn x = x := cn_of_notN (isF_notN (isF_small h))
/-- Two words above zero stand as they read. -/
theorem ford_small {x y : Nat} (hx : x ≤ 9218868437227405311) (hy : y ≤ 9218868437227405311) : ford x y = some (compare (x : Int) (y : Int)) := by
  have nx := isF_notN (isF_small (x := x) (by omega))
  have ny := isF_notN (isF_small (x := y) (by omega))
  rw [ford_pl nx ny]
  unfold pl
  rw [nx, ny, sgn_small (by omega), sgn_small (by omega), rung_small (by omega), rung_small (by omega)]
  rfl
theorem flt_small {x y : Nat} (hx : x ≤ 9218868437227405311) (hy : y ≤ 9218868437227405311) : (ford x y == some .lt) = decide (x < y) := by
  rw [ford_small hx hy]
  have kc : ∀ z : Int, compare z z = .eq := fun z => Std.ReflCmp.compare_self
  rcases Nat.lt_trichotomy x y with h | h | h
  · rw [Std.compare_eq_lt.2 (show (x : Int) < y by omega)]; simp [h]
  · subst h; rw [kc]; simp
  · rw [Std.compare_eq_gt.2 (show (y : Int) < x by omega)]; simp; omega
theorem fge_small {x y : Nat} (hx : x ≤ 9218868437227405311) (hy : y ≤ 9218868437227405311) : (ford x y == some .gt || ford x y == some .eq) = decide (y ≤ x) := by
  rw [ford_small hx hy]
  have kc : ∀ z : Int, compare z z = .eq := fun z => Std.ReflCmp.compare_self
  rcases Nat.lt_trichotomy x y with h | h | h
  · rw [Std.compare_eq_lt.2 (show (x : Int) < y by omega)]; simp; omega
  · subst h; rw [kc]; simp
  · rw [Std.compare_eq_gt.2 (show (y : Int) < x by omega)]; simp; omega

theorem dbl_half : dbl cHalf = 4609047870845172685 := by decide
/-- The parts of a normal word. -/
theorem lp_norm {x Y E low c : Nat} (hY : Y = E * 4503599627370496 + low) (hl : low < 4503599627370496) (h1 : 1 ≤ E) (hu : unitsOf Y = unitsOf x * 2 ^ c) :
    (1023 * 4503599627370496 + low < dbl cHalf → LP x (1023 * 4503599627370496 + low) ((E : Int) - 1023 - c)) ∧ (dbl cHalf ≤ 1023 * 4503599627370496 + low → LP x (hlf (1023 * 4503599627370496 + low)) ((E : Int) - 1023 - c + 1)) := by
  obtain ⟨J, hJ⟩ : ∃ J : Nat, J = 1023 := ⟨_, rfl⟩
  have u0 := units_norm (E := J) (low := low) (by omega) hl
  have uY := units_norm (E := E) (low := low) h1 hl
  rw [← hY, hu] at uY
  have hd : cHalf = 4604544271217802189 := rfl
  have e1 : (E : Int) - 1023 - c = ((E - 1 : Nat) : Int) - ((c + (J - 1) : Nat) : Int) := by omega
  have e2 : (E : Int) - 1023 - c + 1 = ((E : Nat) : Int) - ((c + (J - 1) : Nat) : Int) := by omega
  have hJ0 : 1023 * 4503599627370496 + low = J * 4503599627370496 + low := by rw [hJ]
  rw [← hJ0] at u0
  clear hJ0 hJ
  generalize J - 1 = T at *
  have key : unitsOf (1023 * 4503599627370496 + low) * 2 ^ (E - 1) = unitsOf x * 2 ^ (c + T) := by
    rw [u0, Nat.pow_add, ← Nat.mul_assoc, uY]
    generalize 2 ^ (E - 1) = p
    generalize 2 ^ T = q
    ac_rfl
  clear u0 uY
  constructor
  · intro h
    exact ⟨by omega, h, c + T, E - 1, key, e1⟩
  · intro h
    rw [dbl_half] at h
    refine ⟨by unfold hlf; omega, by rw [dbl_half]; unfold hlf; omega, c + T, E, ?_, e2⟩
    have hpe : 2 ^ E = 2 * 2 ^ (E - 1) := by
      clear key e1 e2 hu hd hY h
      rw [← Nat.pow_succ']; congr 1; omega
    have h3 : 9007199254740992 ≤ 1023 * 4503599627370496 + low := by omega
    have h2 := units_hlf h3
    rw [← key, ← h2, hpe]
    generalize unitsOf (hlf (1023 * 4503599627370496 + low)) = q
    generalize 2 ^ (E - 1) = p
    ac_rfl

end Go.Fl
