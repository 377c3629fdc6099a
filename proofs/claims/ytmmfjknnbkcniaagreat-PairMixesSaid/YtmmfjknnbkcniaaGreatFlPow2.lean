/- Floats times powers of two; a significand at a place, rounded once. -/
import Derived.Test.YtmmfjknnbkcniaaGreatFlAll
namespace Go.Fl
open Ieee

/-- M 2^(e - 1075), rounded once. -/
def scW (M : Nat) (e : Int) : Nat := double.nearest false M (e - 1075)

theorem units_norm {E low : Nat} (hE : 1 ≤ E) (hl : low < 4503599627370496) : unitsOf (E * 4503599627370496 + low) = (4503599627370496 + low) * 2 ^ (E - 1) := by
  unfold unitsOf
  rw [if_neg (by omega), show (E * 4503599627370496 + low) % 4503599627370496 = low by omega, show (E * 4503599627370496 + low) / 4503599627370496 = E by omega]

theorem scW_norm {low E : Nat} {e : Int} (hl : low < 4503599627370496) (he : e = (E : Int)) (h1 : 1 ≤ E) (h2 : E ≤ 2046) : scW (4503599627370496 + low) e = E * 4503599627370496 + low := by
  have hr : E * 4503599627370496 + low < 9218868437227405312 := by omega
  have h := nearest_units false hr
  rw [units_norm h1 hl, ← Nat.shiftLeft_eq, nearest_scale] at h
  unfold scW
  rw [he, show (E : Int) - 1075 = -1074 + ((E - 1 : Nat) : Int) by omega, h, word_eq]; rfl

theorem scW_top {low : Nat} {e : Int} (he : 2047 ≤ e) : scW (4503599627370496 + low) e = 9218868437227405312 := by
  unfold scW
  obtain ⟨t, ht⟩ : ∃ t : Nat, e = 2047 + (t : Int) := ⟨(e - 2047).toNat, by omega⟩
  obtain ⟨T, hT⟩ : ∃ T : Nat, T = 2046 := ⟨_, rfl⟩
  rw [show e - 1075 = -1074 - ((0 : Nat) : Int) + ((T + t : Nat) : Int) by omega, ← nearest_scale, nearest_word]
  have hu : unitsOf (T * 4503599627370496 + 4503599627370496) = 4503599627370496 * 2 ^ T := units_at (by omega) (by omega)
  have hle : 9218868437227405312 ≤ nrung ((4503599627370496 + low) <<< (T + t)) 0 := by
    refine le_nrung (Nat.le_refl _) ?_
    rw [show (9218868437227405312 : Nat) = T * 4503599627370496 + 4503599627370496 by omega, hu, Nat.shiftLeft_eq, Nat.pow_add]
    generalize 2 ^ T = g
    have := Nat.two_pow_pos t
    rw [Nat.pow_zero, Nat.mul_one]
    have h1 : 4503599627370496 * g ≤ (4503599627370496 + low) * g := Nat.mul_le_mul_right _ (by omega)
    have h2 : (4503599627370496 + low) * g * 1 ≤ (4503599627370496 + low) * g * 2 ^ t := Nat.mul_le_mul_left _ this
    rw [Nat.mul_assoc] at h2
    rw [← Nat.mul_assoc]
    rw [← Nat.mul_assoc] at h2
    omega
  have := nrung_top ((4503599627370496 + low) <<< (T + t)) 0
  rw [Nat.le_antisymm this hle, word_eq]; rfl

theorem scW_none {low : Nat} {e : Int} (hl : low < 4503599627370496) (he : e < -53) : scW (4503599627370496 + low) e = 0 := by
  unfold scW
  obtain ⟨d, hd⟩ : ∃ d : Nat, e = 1 - (d : Int) := ⟨(1 - e).toNat, by omega⟩
  rw [show e - 1075 = -1074 - (d : Int) by omega, nearest_word]
  have h0 : nrung (4503599627370496 + low) d ≤ 0 := by
    by_cases hlt : nrung (4503599627370496 + low) d < 9218868437227405312
    · obtain ⟨t, n1, n2, n3⟩ := nrung_near hlt
      have h55 : 2 ^ 55 ≤ 2 ^ d := Nat.pow_le_pow_right (by omega) (by omega)
      by_cases ht : 0 < t
      · have h3 := n3 ht
        have : 2 ^ d ≤ 2 ^ (t + d) := Nat.pow_le_pow_right (by omega) (by omega)
        have h55' : (2 : Nat) ^ 55 = 36028797018963968 := by decide
        omega
      · obtain rfl : t = 0 := by omega
        rw [Nat.zero_add] at n1
        have h55' : (2 : Nat) ^ 55 = 36028797018963968 := by decide
        by_cases hu : unitsOf (nrung (4503599627370496 + low) d) = 0
        · have := unitsOf_pos (r := nrung (4503599627370496 + low) d)
          omega
        · have : 1 * 2 ^ d ≤ unitsOf (nrung (4503599627370496 + low) d) * 2 ^ d := Nat.mul_le_mul_right _ (by omega)
          omega
    · exfalso
      have : nrung (4503599627370496 + low) d ≤ 9007199254740992 := by
        refine nrung_le ?_
        have hp := Nat.two_pow_pos d
        have hu : 9007199254740992 ≤ unitsOf 9007199254740992 := by decide
        have : 9007199254740992 * 1 ≤ unitsOf 9007199254740992 * 2 ^ d := Nat.mul_le_mul hu hp
        omega
      omega
  rw [Nat.le_zero.1 h0, word_eq]; rfl

theorem log2_norm {low : Nat} (hl : low < 4503599627370496) : (4503599627370496 + low).log2 = 52 := by
  have h1 : 52 ≤ (4503599627370496 + low).log2 := (Nat.le_log2 (by omega)).2 (by omega)
  have h2 : (4503599627370496 + low).log2 < 53 := (Nat.log2_lt (by omega)).2 (by omega)
  omega

/-- Below the normal numbers: the digits that are kept, and one more or not. -/
theorem scW_sub {low d : Nat} {e : Int} (hl : low < 4503599627370496) (he : e = 1 - (d : Int)) (h1 : 1 ≤ d) (h2 : d ≤ 54) :
    scW (4503599627370496 + low) e = (4503599627370496 + low) / 2 ^ d + (decide (2 ^ (d - 1) < (4503599627370496 + low) % 2 ^ d) || (4503599627370496 + low) % 2 ^ d == 2 ^ (d - 1) && (4503599627370496 + low) / 2 ^ d % 2 == 1).toNat := by
  unfold scW Format.nearest
  rw [if_neg (by omega)]
  dsimp only
  rw [log2_norm hl, lp_eq, binade_eq, infRung_eq]
  have hfb : ((double.fractionBits : Nat) : Int) = 52 := rfl
  rw [hfb]
  have e1 : max (e - 1075 + ((52 : Nat) : Int) - 52) (-1074) = -1074 := by omega
  rw [e1]
  have e2 : (e - 1075 - -1074).toNat = 0 := by omega
  have e3 : (-1074 - (e - 1075)).toNat = d := by omega
  rw [e2, e3, Nat.shiftLeft_zero]
  have e4 : (-1074 - (-1074 : Int)).toNat = 0 := by decide
  rw [e4, Nat.zero_mul, Nat.zero_add]
  unfold Toward.cut
  dsimp only
  have e5 : min d ((4503599627370496 + low).log2 + 2) = d := by rw [log2_norm hl]; omega
  rw [e5, Nat.shiftLeft_eq, Nat.one_mul]
  have hd : 2 ^ d = 2 * 2 ^ (d - 1) := by rw [← Nat.pow_succ']; congr 1; omega
  have hq : (4503599627370496 + low) / 2 ^ d ≤ 4503599627370496 + low := Nat.div_le_self _ _
  have e6 : (decide (2 ^ d < 2 * ((4503599627370496 + low) % 2 ^ d)) || 2 ^ d == 2 * ((4503599627370496 + low) % 2 ^ d) && (4503599627370496 + low) / 2 ^ d % 2 == 1) =
      (decide (2 ^ (d - 1) < (4503599627370496 + low) % 2 ^ d) || (4503599627370496 + low) % 2 ^ d == 2 ^ (d - 1) && (4503599627370496 + low) / 2 ^ d % 2 == 1) := by
    congr 1
    · rw [Bool.eq_iff_iff, decide_eq_true_iff, decide_eq_true_iff]; omega
    · congr 1
      rw [Bool.eq_iff_iff, beq_iff_eq, beq_iff_eq]; omega
  rw [e6]
  rw [Nat.min_eq_left, word_eq]
  · rfl
  · cases (decide (2 ^ (d - 1) < (4503599627370496 + low) % 2 ^ d) || (4503599627370496 + low) % 2 ^ d == 2 ^ (d - 1) && (4503599627370496 + low) / 2 ^ d % 2 == 1) <;> simp <;> omega

theorem sgn_small {x : Nat} (h : x < 9223372036854775808) : sgn x = false := by unfold sgn; simp; omega
theorem rung_small {x : Nat} (h : x < 9223372036854775808) : rung x = x := by unfold rung; omega

theorem isF_small {x : Nat} (h : x < 9218868437227405312) : isF x := by unfold isF; rw [rung_small (by omega)]; exact h

/-- A normal number times a power of two. -/
theorem fmul_pow2 {E low J : Nat} (hl : low < 4503599627370496) (h1 : 1 ≤ E) (h2 : E ≤ 2046) (j1 : 1 ≤ J) (j2 : J ≤ 2046) :
    fmul (E * 4503599627370496 + low) (J * 4503599627370496) = scW (4503599627370496 + low) ((E : Int) + (J : Int) - 1023) := by
  have hu1 := units_norm h1 hl
  have hu := units_norm (low := 0) j1 (by omega)
  rw [Nat.add_zero, Nat.add_zero] at hu
  obtain ⟨x, hx⟩ : ∃ x, x = E * 4503599627370496 + low := ⟨_, rfl⟩
  obtain ⟨y, hy⟩ : ∃ y, y = J * 4503599627370496 := ⟨_, rfl⟩
  have b1 : x < 9218868437227405312 := by omega
  have b2 : y < 9218868437227405312 := by omega
  rw [← hx] at hu1 ⊢
  rw [← hy] at hu ⊢
  rw [mul_fin (isF_small b1) (isF_small b2), sgn_small (by omega), sgn_small (by omega), rung_small (by omega), rung_small (by omega), hu1]
  rw [hu, ← nearest_word]
  have hm : (4503599627370496 + low) * 2 ^ (E - 1) * (4503599627370496 * 2 ^ (J - 1)) = (4503599627370496 + low) <<< (E + J + 50) := by
    have hp : (4503599627370496 : Nat) = 2 ^ 52 := by decide
    rw [Nat.shiftLeft_eq, show E + J + 50 = (E - 1) + 52 + (J - 1) by omega, Nat.pow_add, Nat.pow_add, ← hp]
    generalize 2 ^ (E - 1) = a
    generalize 2 ^ (J - 1) = b
    ac_rfl
  rw [hm, nearest_scale]
  unfold scW
  rw [show (-1074 - (K : Int) + ((E + J + 50 : Nat) : Int)) = (E : Int) + (J : Int) - 1023 - 1075 by rw [K_eq]; omega]
  rfl

end Go.Fl
