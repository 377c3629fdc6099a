/- Whole numbers as floats: sums and differences of those up to 2 to the power 53 are exact. -/
import Derived.Test.YtllphokepjekpaaFlVal
namespace Go.Fl
open Ieee

theorem unitsOf_succ (r : Nat) : unitsOf r < unitsOf (r + 1) := by
  unfold unitsOf
  by_cases h1 : r + 1 < 4503599627370496
  · rw [if_pos (by omega), if_pos h1]; omega
  · rw [if_neg h1]
    by_cases h2 : r < 4503599627370496
    · have : r = 4503599627370495 := by omega
      subst this
      decide +kernel
    · rw [if_neg h2]
      obtain ⟨e, f, hr, hf⟩ : ∃ e f, r = (e + 1) * 4503599627370496 + f ∧ f < 4503599627370496 := ⟨r / 4503599627370496 - 1, r % 4503599627370496, by omega, by omega⟩
      subst hr
      by_cases h3 : f + 1 < 4503599627370496
      · rw [show ((e + 1) * 4503599627370496 + f) % 4503599627370496 = f by omega, show ((e + 1) * 4503599627370496 + f) / 4503599627370496 - 1 = e by omega, show ((e + 1) * 4503599627370496 + f + 1) % 4503599627370496 = f + 1 by omega, show ((e + 1) * 4503599627370496 + f + 1) / 4503599627370496 - 1 = e by omega]
        exact (Nat.mul_lt_mul_right (Nat.two_pow_pos e)).2 (by omega)
      · rw [show ((e + 1) * 4503599627370496 + f) % 4503599627370496 = f by omega, show ((e + 1) * 4503599627370496 + f) / 4503599627370496 - 1 = e by omega, show ((e + 1) * 4503599627370496 + f + 1) % 4503599627370496 = 0 by omega, show ((e + 1) * 4503599627370496 + f + 1) / 4503599627370496 - 1 = e + 1 by omega]
        rw [Nat.pow_succ, Nat.mul_comm (2 ^ e) 2, ← Nat.mul_assoc]
        exact (Nat.mul_lt_mul_right (Nat.two_pow_pos e)).2 (by omega)

theorem unitsOf_lt {r s : Nat} (h : r < s) : unitsOf r < unitsOf s := by
  induction s with
  | zero => omega
  | succ s ih =>
    by_cases hs : r = s
    · subst hs; exact unitsOf_succ r
    · exact Nat.lt_trans (ih (by omega)) (unitsOf_succ s)

theorem unitsOf_le {r s : Nat} (h : r ≤ s) : unitsOf r ≤ unitsOf s := by
  by_cases hs : r = s
  · subst hs; exact Nat.le_refl _
  · exact Nat.le_of_lt (unitsOf_lt (by omega))

theorem unitsOf_inj {r s : Nat} (h : unitsOf r = unitsOf s) : r = s := by
  by_cases h1 : r < s
  · have := unitsOf_lt h1; omega
  · by_cases h2 : s < r
    · have := unitsOf_lt h2; omega
    · omega

theorem compare_mul (a b k : Int) (hk : 0 < k) : compare (a * k) (b * k) = compare a b := by
  by_cases h1 : a < b
  · have := Int.mul_lt_mul_of_pos_right h1 hk
    rw [Std.compare_eq_lt.2 h1, Std.compare_eq_lt.2 this]
  · by_cases h2 : a = b
    · subst h2; simp [Std.ReflCmp.compare_self]
    · have h3 : b < a := by omega
      have := Int.mul_lt_mul_of_pos_right h3 hk
      rw [Std.compare_eq_gt.2 h3, Std.compare_eq_gt.2 this]

theorem order_fin {x y : Nat} (hx : isF x) (hy : isF y) : ford x y = some (compare (uv x) (uv y)) := by
  obtain ⟨m, a, h1, h2⟩ := read_fin hx
  obtain ⟨n, b, h3, h4⟩ := read_fin hy
  unfold ford Format.order
  rw [h1, h3]
  unfold Datum.order
  dsimp only
  have hb : min (-1074 + (a : Int)) (-1074 + (b : Int)) = -1074 + (min a b : Nat) := by omega
  have ha1 : (-1074 + (a : Int) - (-1074 + ((min a b : Nat) : Int))).toNat = a - min a b := by omega
  have hb1 : (-1074 + (b : Int) - (-1074 + ((min a b : Nat) : Int))).toNat = b - min a b := by omega
  rw [hb, ha1, hb1]
  have hp : (0 : Int) < ((2 ^ min a b : Nat) : Int) := by exact_mod_cast Nat.two_pow_pos _
  rw [← compare_mul _ _ _ hp, signed_mul _ m a (min a b) (by omega), signed_mul _ n b (min a b) (by omega), uv, uv, ← h2, ← h4]

theorem isF_notN {x : Nat} (h : isF x) : isN x = false := by
  obtain ⟨m, a, h1, _⟩ := read_fin h
  unfold isN; rw [h1]; rfl

/-- One, in least units. -/
def K : Nat := 1074
theorem K_eq : K = 1074 := rfl
def U : Nat := 2 ^ K
theorem U_pos : 0 < U := Nat.two_pow_pos _

theorem U_eq : U = 2 ^ K := rfl
theorem pow_bound {m a b E : Nat} (h : m ≤ 2 ^ a) (hE : a + b < E) : m * 2 ^ b < 2 ^ E := by
  have h1 : m * 2 ^ b ≤ 2 ^ a * 2 ^ b := Nat.mul_le_mul_right _ h
  rw [← Nat.pow_add] at h1
  exact Nat.lt_of_le_of_lt h1 (Nat.pow_lt_pow_right (by omega) hE)

theorem rung_of53 (m k : Nat) (hm : m ≤ 9007199254740992) (hk : k < 2045) : ∃ r, r < 9218868437227405312 ∧ unitsOf r = m * 2 ^ k := by
  obtain ⟨E, hE⟩ : ∃ E, E = 2098 := ⟨_, rfl⟩
  exact rung_of hE m k hm (pow_bound (a := 53) (by omega) (by omega))

/-- A whole number as a float. -/
def wz (z : Int) : Nat := double.nearest (decide (z < 0)) z.natAbs 0
theorem wz_eq (z : Int) : floatOfInt .f64 z = wz z := rfl

theorem wz_read {z : Int} (h : z.natAbs ≤ 9007199254740992) : isF (wz z) ∧ uv (wz z) = z * (U : Int) ∧ sgn (wz z) = decide (z < 0) := by
  obtain ⟨r, hr, hu⟩ := rung_of53 z.natAbs K h (by rw [K_eq]; omega)
  have hw : wz z = double.word (decide (z < 0)) r := by
    rw [← nearest_units _ hr, hu, ← Nat.shiftLeft_eq, nearest_scale, K_eq]
    rfl
  rw [hw]
  refine ⟨isF_word _ hr, ?_, sgn_word _ (by omega)⟩
  rw [uv_word _ hr, hu, ← U_eq]
  generalize U = k
  by_cases hz : z < 0
  · rw [if_pos (by simp [hz]), show z = -(z.natAbs : Int) by omega]
    simp [Int.neg_mul]
  · rw [if_neg (by simp [hz])]
    obtain ⟨n, rfl⟩ := Int.eq_ofNat_of_zero_le (by omega : 0 ≤ z)
    simp

theorem roundU_whole (s : Bool) (z : Int) (hs : z = 0 → s = false) : roundU s (z * (U : Int)) = wz z := by
  unfold roundU wz
  have hp : (0 : Int) < (U : Int) := by exact_mod_cast U_pos
  have hn : (z * (U : Int)).natAbs = z.natAbs <<< K := by
    rw [Int.natAbs_mul, Int.natAbs_natCast, Nat.shiftLeft_eq, U_eq]
  rw [hn, nearest_scale, K_eq]
  have hsg : (if z * (U : Int) = 0 then s else decide (z * (U : Int) < 0)) = decide (z < 0) := by
    by_cases h0 : z = 0
    · subst h0; simp [hs rfl]
    · rw [if_neg (by intro h; rcases Int.mul_eq_zero.1 h with h | h <;> omega)]
      by_cases hneg : z < 0
      · rw [decide_eq_true hneg, decide_eq_true (Int.mul_neg_of_neg_of_pos hneg hp)]
      · have := Int.mul_nonneg (a := z) (by omega) (Int.le_of_lt hp)
        rw [decide_eq_false hneg, decide_eq_false (by omega)]
  rw [hsg]
  rfl

theorem wz_add {a b : Int} (ha : a.natAbs ≤ 9007199254740992) (hb : b.natAbs ≤ 9007199254740992) : fadd (wz a) (wz b) = wz (a + b) := by
  obtain ⟨h1, h2, h3⟩ := wz_read ha
  obtain ⟨k1, k2, k3⟩ := wz_read hb
  rw [add_fin h1 k1, h2, k2, ← Int.add_mul]
  refine roundU_whole _ _ fun h => ?_
  rw [h3, k3]
  by_cases h4 : a < 0
  · rw [decide_eq_false (show ¬ b < 0 by omega)]; simp
  · rw [decide_eq_false h4]; rfl

theorem wz_sub {a b : Int} (ha : a.natAbs ≤ 9007199254740992) (hb : b.natAbs ≤ 9007199254740992) : fsub (wz a) (wz b) = wz (a - b) := by
  obtain ⟨h1, h2, h3⟩ := wz_read ha
  obtain ⟨k1, k2, k3⟩ := wz_read hb
  rw [sub_fin h1 k1, h2, k2, ← Int.sub_mul]
  refine roundU_whole _ _ fun h => ?_
  rw [h3, k3]
  by_cases h4 : a < 0
  · rw [decide_eq_true (show b < 0 by omega)]; simp
  · rw [decide_eq_false h4]; rfl

theorem cn_wz {z : Int} (h : z.natAbs ≤ 9007199254740992) : cn (wz z) = wz z := cn_of_notN (isF_notN (wz_read h).1)
theorem wz_zero : wz 0 = 0 := by decide +kernel

theorem ford_refl {x : Nat} (h : isN x = false) : ford x x = some .eq := ford_self h

end Go.Fl
