/- Rounding: how far the nearest word lies from a number, and that it keeps the order. Numbers are whole numbers over a power of two of least units. -/
import Derived.Test.YtllphokepjekpaaFlInt
namespace Go.Fl
open Ieee

theorem cut_bounds (s : Bool) (n d : Nat) : 2 * Toward.even.cut s n d * 2 ^ d ≤ 2 * n + 2 ^ d ∧ 2 * n ≤ 2 * Toward.even.cut s n d * 2 ^ d + 2 ^ d := by
  unfold Toward.cut
  dsimp only
  obtain ⟨e1, e2⟩ := gap_eq n d
  rw [e1, e2]
  have hn := Nat.div_add_mod n (2 ^ d)
  have hp := Nat.two_pow_pos d
  have hr := Nat.mod_lt n hp
  by_cases h : d ≤ n.log2 + 2
  · rw [Nat.min_eq_left h, Nat.shiftLeft_eq, Nat.one_mul]
    generalize 2 ^ d = g at *
    generalize n / g = q at *
    generalize n % g = r at *
    have hm : 2 * q * g = 2 * (g * q) := by rw [Nat.mul_assoc, Nat.mul_comm q]
    cases hc : (decide (g < 2 * r) || g == 2 * r && q % 2 == 1)
    · simp only [Bool.or_eq_false_iff, decide_eq_false_iff_not, Bool.and_eq_false_iff, beq_eq_false_iff_ne] at hc
      rw [Bool.toNat_false, Nat.add_zero, hm]
      omega
    · have hc' : g ≤ 2 * r := by
        simp only [Bool.or_eq_true, decide_eq_true_eq, Bool.and_eq_true, beq_iff_eq] at hc
        omega
      rw [Bool.toNat_true, show 2 * (q + 1) * g = 2 * q * g + 2 * g by rw [← Nat.add_mul, Nat.mul_add], hm]
      omega
  · have hlt : n < 2 ^ (n.log2 + 1) := Nat.lt_log2_self
    have hp2 : 2 ^ (n.log2 + 2) = 2 * 2 ^ (n.log2 + 1) := by rw [Nat.pow_succ, Nat.mul_comm]
    have hle : 2 ^ (n.log2 + 2) ≤ 2 ^ d := Nat.pow_le_pow_right (by omega) (by omega)
    rw [Nat.min_eq_right (by omega), Nat.shiftLeft_eq, Nat.one_mul]
    have hlow : n / 2 ^ d = 0 := Nat.div_eq_of_lt (by omega)
    have hrest : n % 2 ^ d = n := Nat.mod_eq_of_lt (by omega)
    rw [hlow, hrest]
    have hc : (decide (2 ^ (n.log2 + 2) < 2 * n) || 2 ^ (n.log2 + 2) == 2 * n && (0 : Nat) % 2 == 1) = false := by
      simp; omega
    rw [hc]
    simp
    omega

/-- The rung nearest to m / 2^d least units, infinity's at most: t binades up, k steps there. -/
theorem nearest_at (s : Bool) (m d : Nat) : ∃ k t, double.nearest s m (-1074 - (d : Int)) = double.word s (min (t * 4503599627370496 + k) 9218868437227405312) ∧ k ≤ 9007199254740992 ∧ (0 < t → 4503599627370496 ≤ k) ∧
    2 * k * 2 ^ (t + d) ≤ 2 * m + 2 ^ (t + d) ∧ 2 * m ≤ 2 * k * 2 ^ (t + d) + 2 ^ (t + d) ∧ (0 < t → 4503599627370496 * 2 ^ (t + d) ≤ m) ∧ m < 9007199254740992 * 2 ^ (t + d) := by
  by_cases hm : m = 0
  · subst hm
    refine ⟨0, 0, ?_, by omega, by omega, by simp, by simp, by omega, ?_⟩
    · unfold Format.nearest; rw [if_pos rfl]; simp
    · exact Nat.mul_pos (by omega) (Nat.two_pow_pos _)
  · obtain ⟨t, ht⟩ : ∃ t, t = m.log2 - 52 - d := ⟨_, rfl⟩
    have hlo : 2 ^ m.log2 ≤ m := Nat.log2_self_le hm
    have hhi : m < 2 ^ (m.log2 + 1) := Nat.lt_log2_self
    have hb := cut_bounds s m (t + d)
    have hup : m < 9007199254740992 * 2 ^ (t + d) := by
      have : 2 ^ (m.log2 + 1) ≤ 2 ^ (53 + (t + d)) := Nat.pow_le_pow_right (by omega) (by omega)
      have e : (2 : Nat) ^ (53 + (t + d)) = 9007199254740992 * 2 ^ (t + d) := by rw [Nat.pow_add]
      omega
    have hdn : 0 < t → 4503599627370496 * 2 ^ (t + d) ≤ m := fun h => by
      have : 2 ^ (52 + (t + d)) = 2 ^ m.log2 := by congr 1; omega
      have e : (2 : Nat) ^ (52 + (t + d)) = 4503599627370496 * 2 ^ (t + d) := by rw [Nat.pow_add]
      omega
    refine ⟨Toward.even.cut s m (t + d), t, ?_, ?_, ?_, hb.1, hb.2, hdn, hup⟩
    · unfold Format.nearest
      rw [if_neg hm]
      dsimp only
      have hlast : max (-1074 - (d : Int) + (m.log2 : Int) - double.fractionBits) double.leastPlace = -1074 + (t : Int) := by
        rw [lp_eq, show double.fractionBits = 52 from rfl]; omega
      rw [hlast, lp_eq, binade_eq, infRung_eq]
      rw [show ((-1074 : Int) - (d : Int) - (-1074 + (t : Int))).toNat = 0 by omega, Nat.shiftLeft_zero, show (-1074 + (t : Int) - (-1074 - (d : Int))).toNat = t + d by omega, show (-1074 + (t : Int) - -1074).toNat = t by omega]
    · have hp := Nat.two_pow_pos (t + d)
      generalize Toward.even.cut s m (t + d) = c at *
      generalize 2 ^ (t + d) = g at *
      refine Nat.le_of_not_lt fun h => ?_
      have h2 : 2 * 9007199254740993 * g ≤ 2 * c * g := Nat.mul_le_mul_right g (by omega)
      omega
    · intro h
      have hd := hdn h
      have hp := Nat.two_pow_pos (t + d)
      generalize Toward.even.cut s m (t + d) = c at *
      generalize 2 ^ (t + d) = g at *
      refine Nat.le_of_not_lt fun h => ?_
      have h2 : 2 * c * g ≤ 2 * 4503599627370495 * g := Nat.mul_le_mul_right g (by omega)
      omega

theorem units_at {k t : Nat} (hk : k ≤ 9007199254740992) (ht : 0 < t → 4503599627370496 ≤ k) : unitsOf (t * 4503599627370496 + k) = k * 2 ^ t := by
  unfold unitsOf
  by_cases h0 : t = 0
  · subst h0
    rw [Nat.zero_mul, Nat.zero_add, Nat.pow_zero, Nat.mul_one]
    by_cases h1 : k < 4503599627370496
    · rw [if_pos h1]
    · rw [if_neg h1]
      by_cases h2 : k = 9007199254740992
      · subst h2; decide
      · rw [show k % 4503599627370496 = k - 4503599627370496 by omega, show k / 4503599627370496 - 1 = 0 by omega]; omega
  · have := ht (by omega)
    rw [if_neg (by omega)]
    by_cases h2 : k = 9007199254740992
    · subst h2
      rw [show (t * 4503599627370496 + 9007199254740992) % 4503599627370496 = 0 by omega, show (t * 4503599627370496 + 9007199254740992) / 4503599627370496 - 1 = t + 1 by omega, Nat.pow_succ]; omega
    · rw [show (t * 4503599627370496 + k) % 4503599627370496 = k - 4503599627370496 by omega, show (t * 4503599627370496 + k) / 4503599627370496 - 1 = t by omega, show 4503599627370496 + (k - 4503599627370496) = k by omega]

/-- The rung nearest to m / 2^d least units. -/
noncomputable def nrung (m d : Nat) : Nat := rung (double.nearest false m (-1074 - (d : Int)))

theorem rung_word' (s : Bool) (r : Nat) : rung (double.word s (min r 9218868437227405312)) = min r 9218868437227405312 := rung_word s (by omega)

theorem cut_sign (s : Bool) (n d : Nat) : Toward.even.cut s n d = Toward.even.cut false n d := rfl

theorem nearest_word (s : Bool) (m d : Nat) : double.nearest s m (-1074 - (d : Int)) = double.word s (nrung m d) := by
  unfold nrung Format.nearest
  by_cases hm : m = 0
  · rw [if_pos hm, if_pos hm, rung_word false (by omega)]
  · rw [if_neg hm, if_neg hm]
    dsimp only
    rw [cut_sign s, infRung_eq, rung_word']

/-- What is not above a rung's number is not written above it. -/
theorem nrung_le {m d r : Nat} (h : m ≤ unitsOf r * 2 ^ d) : nrung m d ≤ r := by
  obtain ⟨k, t, h1, h2, h3, h4, h5, h6, h7⟩ := nearest_at false m d
  unfold nrung
  rw [h1, rung_word']
  refine Nat.le_trans (Nat.min_le_left _ _) ?_
  by_cases hlt : r < t * 4503599627370496 + k
  · exfalso
    -- r's number is a whole number of steps of 2^t, or below them all
    have hu := unitsOf_lt hlt
    rw [units_at h2 h3] at hu
    have hp := Nat.two_pow_pos t
    have hpd := Nat.two_pow_pos d
    have he : (2 : Nat) ^ (t + d) = 2 ^ t * 2 ^ d := Nat.pow_add ..
    obtain ⟨q, hq⟩ : ∃ q, unitsOf r = q * 2 ^ t ∨ (0 < t ∧ unitsOf r < 4503599627370496 * 2 ^ t) := by
      by_cases h0 : t = 0
      · exact ⟨unitsOf r, .inl (by subst h0; simp)⟩
      · by_cases hr : r < t * 4503599627370496 + 4503599627370496
        · refine ⟨0, .inr ⟨by omega, ?_⟩⟩
          have := unitsOf_lt hr
          rwa [units_at (by omega) (by omega)] at this
        · refine ⟨r - t * 4503599627370496, .inl ?_⟩
          have := units_at (k := r - t * 4503599627370496) (t := t) (by omega) (by omega)
          rwa [show t * 4503599627370496 + (r - t * 4503599627370496) = r by omega] at this
    rcases hq with hq | ⟨hq1, hq2⟩
    · rw [hq] at h hu
      have hqk : q < k := Nat.lt_of_mul_lt_mul_right hu
      have : 2 * (q + 1) * 2 ^ (t + d) ≤ 2 * k * 2 ^ (t + d) := Nat.mul_le_mul_right _ (by omega)
      rw [Nat.mul_assoc, ← he] at h
      generalize 2 ^ (t + d) = g at *
      have hg : 0 < g := by rw [he]; exact Nat.mul_pos hp hpd
      have e : 2 * (q + 1) * g = 2 * (q * g) + 2 * g := by rw [Nat.mul_assoc, Nat.add_mul, Nat.mul_add, Nat.one_mul]
      omega
    · have h8 := h6 hq1
      rw [he] at h8
      have h9 : unitsOf r * 2 ^ d < 4503599627370496 * 2 ^ t * 2 ^ d := Nat.mul_lt_mul_of_pos_right hq2 hpd
      rw [Nat.mul_assoc] at h9
      omega
  · omega

/-- What is not below a rung's number is not written below it. -/
theorem le_nrung {m d r : Nat} (hr : r ≤ 9218868437227405312) (h : unitsOf r * 2 ^ d ≤ m) : r ≤ nrung m d := by
  obtain ⟨k, t, h1, h2, h3, h4, h5, h6, h7⟩ := nearest_at false m d
  unfold nrung
  rw [h1, rung_word']
  refine Nat.le_min.2 ⟨?_, hr⟩
  by_cases hlt : t * 4503599627370496 + k < r
  · exfalso
    have hu := unitsOf_lt hlt
    rw [units_at h2 h3] at hu
    have hp := Nat.two_pow_pos t
    have hpd := Nat.two_pow_pos d
    have he : (2 : Nat) ^ (t + d) = 2 ^ t * 2 ^ d := Nat.pow_add ..
    by_cases hr2 : r ≤ t * 4503599627370496 + 9007199254740992
    · have := units_at (k := r - t * 4503599627370496) (t := t) (by omega) (by omega)
      rw [show t * 4503599627370496 + (r - t * 4503599627370496) = r by omega] at this
      rw [this] at h hu
      generalize r - t * 4503599627370496 = q at *
      have hqk : k < q := Nat.lt_of_mul_lt_mul_right hu
      have h8 : 2 * (k + 1) * 2 ^ (t + d) ≤ 2 * q * 2 ^ (t + d) := Nat.mul_le_mul_right _ (by omega)
      rw [Nat.mul_assoc, ← he] at h
      generalize 2 ^ (t + d) = g at *
      have hg : 0 < g := by rw [he]; exact Nat.mul_pos hp hpd
      have e : 2 * (k + 1) * g = 2 * k * g + 2 * g := by rw [Nat.mul_assoc, Nat.add_mul, Nat.mul_add, Nat.one_mul, Nat.mul_assoc]
      have e2 : 2 * q * g = 2 * (q * g) := Nat.mul_assoc ..
      omega
    · have h8 : unitsOf (t * 4503599627370496 + 9007199254740992) < unitsOf r := unitsOf_lt (by omega)
      rw [units_at (by omega) (by omega)] at h8
      have h9 : 9007199254740992 * 2 ^ t * 2 ^ d ≤ unitsOf r * 2 ^ d := Nat.mul_le_mul_right _ (Nat.le_of_lt h8)
      rw [Nat.mul_assoc, ← he] at h9
      omega
  · omega

/-- How far the nearest word lies: half a step of its binade. -/
theorem nrung_near {m d : Nat} (h : nrung m d < 9218868437227405312) : ∃ t, 2 * (unitsOf (nrung m d) * 2 ^ d) ≤ 2 * m + 2 ^ (t + d) ∧ 2 * m ≤ 2 * (unitsOf (nrung m d) * 2 ^ d) + 2 ^ (t + d) ∧ (0 < t → 4503599627370496 * 2 ^ (t + d) ≤ m) := by
  obtain ⟨k, t, h1, h2, h3, h4, h5, h6, h7⟩ := nearest_at false m d
  unfold nrung at *
  rw [h1, rung_word'] at h ⊢
  rw [Nat.min_eq_left (by omega), units_at h2 h3]
  have he : k * 2 ^ t * 2 ^ d = k * 2 ^ (t + d) := by rw [Nat.pow_add, Nat.mul_assoc]
  rw [he, ← Nat.mul_assoc]
  exact ⟨t, h4, h5, h6⟩

end Go.Fl
