/- Floats made whole: floor, and the integer towards nought. -/
import Derived.Test.YtllphokepjekpaaFlWhole
namespace Go.Fl
open Ieee

theorem gap_eq (n d : Nat) : n / (1 <<< min d (n.log2 + 2)) = n / 2 ^ d ∧ n % (1 <<< min d (n.log2 + 2)) = n % 2 ^ d := by
  by_cases h : d ≤ n.log2 + 2
  · rw [Nat.min_eq_left h, Nat.shiftLeft_eq, Nat.one_mul]
    exact ⟨rfl, rfl⟩
  · rw [Nat.min_eq_right (by omega), Nat.shiftLeft_eq, Nat.one_mul]
    have h1 : n < 2 ^ (n.log2 + 1) := Nat.lt_log2_self
    have h2 : 2 ^ (n.log2 + 1) ≤ 2 ^ (n.log2 + 2) := Nat.pow_le_pow_right (by omega) (by omega)
    have h3 : 2 ^ (n.log2 + 1) ≤ 2 ^ d := Nat.pow_le_pow_right (by omega) (by omega)
    rw [Nat.div_eq_of_lt (by omega), Nat.div_eq_of_lt (by omega), Nat.mod_eq_of_lt (by omega), Nat.mod_eq_of_lt (by omega)]
    exact ⟨rfl, rfl⟩

theorem cut_zero_way (s : Bool) (n d : Nat) : Toward.zero.cut s n d = n / 2 ^ d := by
  unfold Toward.cut
  simp only [(gap_eq n d).1, Bool.toNat_false, Nat.add_zero]
theorem cut_down_way (s : Bool) (n d : Nat) : Toward.down.cut s n d = n / 2 ^ d + (s && n % 2 ^ d != 0).toNat := by
  unfold Toward.cut
  simp only [(gap_eq n d).1, (gap_eq n d).2]

theorem read_fin2 {x : Nat} (h : isF x) : ∃ m j : Nat, double.read x = .number (sgn x) m (-1074 + (j : Int)) ∧ m * 2 ^ j = unitsOf (rung x) ∧ m < 9007199254740992 := by
  unfold isF rung at h
  unfold Format.read sgn
  dsimp only
  rw [sw_eq, binade_eq, infRung_eq, lp_eq]
  unfold unitsOf rung
  by_cases h1 : x % 9223372036854775808 < 4503599627370496
  · rw [if_pos h1, if_pos h1]
    exact ⟨_, 0, rfl, by simp, by omega⟩
  · rw [if_neg h1, if_neg h1, if_pos h]
    exact ⟨_, _, rfl, rfl, by omega⟩

theorem units_div (m j : Nat) : m * 2 ^ j / U = (m <<< (-1074 + (j : Int)).toNat) / 2 ^ (-(-1074 + (j : Int))).toNat := by
  rw [U_eq]
  by_cases hj : 1074 ≤ j
  · rw [show (-1074 + (j : Int)).toNat = j - 1074 by omega, show (-(-1074 + (j : Int))).toNat = 0 by omega, Nat.pow_zero, Nat.div_one, Nat.shiftLeft_eq]
    have : 2 ^ j = 2 ^ (j - 1074) * 2 ^ K := by rw [← Nat.pow_add]; congr 1; have := K_eq; omega
    rw [this, ← Nat.mul_assoc, Nat.mul_div_cancel _ (Nat.two_pow_pos _)]
  · rw [show (-1074 + (j : Int)).toNat = 0 by omega, show (-(-1074 + (j : Int))).toNat = 1074 - j by omega, Nat.shiftLeft_zero]
    have : (2 : Nat) ^ K = 2 ^ (1074 - j) * 2 ^ j := by rw [← Nat.pow_add]; congr 1; have := K_eq; omega
    rw [this, Nat.mul_div_mul_right _ _ (Nat.two_pow_pos _)]

theorem units_mod (m j : Nat) (hj : j ≤ 1074) : m * 2 ^ j % U = (m % 2 ^ (1074 - j)) * 2 ^ j := by
  rw [U_eq]
  have : (2 : Nat) ^ K = 2 ^ (1074 - j) * 2 ^ j := by rw [← Nat.pow_add]; congr 1; have := K_eq; omega
  rw [this, Nat.mul_mod_mul_right]

theorem zero_place : (-1074 : Int) + ((1074 : Nat) : Int) = 0 := by decide

/-- A number cut towards nought. -/
theorem toInt_fin {x : Nat} (h : isF x) : (double.read x).toInt .zero = some ((uv x).tdiv (U : Int)) := by
  obtain ⟨m, j, h1, h2⟩ := read_fin h
  rw [h1]
  unfold Datum.toInt Datum.integral
  dsimp only
  rw [cut_zero_way, ← units_div, uv, ← h2]
  unfold signed
  rw [Nat.shiftLeft_zero]
  cases sgn x
  · rw [if_neg (by simp), if_neg (by simp), Int.ofNat_tdiv]
  · rw [if_pos rfl, if_pos rfl, Int.neg_tdiv, Int.ofNat_tdiv]

theorem floor_neg (a u : Nat) (hu : 0 < u) : (-(a : Int)) / (u : Int) = -((a / u + (a % u != 0).toNat : Nat) : Int) := by
  have h1 := Nat.div_add_mod a u
  have h2 := Nat.mod_lt a hu
  generalize a / u = q at *
  generalize a % u = r at *
  have h3 : (a : Int) = (u : Int) * q + r := by rw [← h1]; simp
  by_cases hr : r = 0
  · subst hr
    have := (Int.ediv_emod_unique (a := -(a : Int)) (b := u) (r := 0) (q := -(q : Int)) (by omega)).2 ⟨by rw [h3, Int.mul_neg]; simp, by omega, by omega⟩
    rw [this.1]; simp
  · have := (Int.ediv_emod_unique (a := -(a : Int)) (b := u) (r := (u : Int) - r) (q := -(q : Int) - 1) (by omega)).2 ⟨by rw [h3, Int.mul_sub, Int.mul_neg, Int.mul_one]; omega, by omega, by omega⟩
    rw [this.1, show (r != 0) = true by simp [hr]]
    simp only [Bool.toNat_true, Int.natCast_add, Int.natCast_one]
    omega

/-- The floor of a class. -/
def ffloor (s : Nat) : Nat := if isN s then nanc else double.write ((double.read s).integral .down)

theorem ffloor_eq {x : Nat} {s : Bool} {m : Nat} {p : Int} (h : isN x = false) (h1 : double.read x = .number s m p) : ffloor x = double.nearest s (Toward.down.cut s (m <<< p.toNat) (-p).toNat) 0 := by
  unfold ffloor
  rw [h, if_neg (by simp), h1]
  rfl

theorem ffloor_fin {x : Nat} (h : isF x) : isF (ffloor x) ∧ uv (ffloor x) = uv x / (U : Int) * (U : Int) := by
  obtain ⟨m, j, h1, h2, h3⟩ := read_fin2 h
  have hU := U_pos
  rw [ffloor_eq (isF_notN h) h1, cut_down_way, ← units_div, h2]
  by_cases hj : 1074 ≤ j
  · have hd : unitsOf (rung x) = (m * 2 ^ (j - 1074)) * U := by
      rw [← h2, U_eq, Nat.mul_assoc, ← Nat.pow_add]; congr 2; have := K_eq; omega
    rw [show (-(-1074 + (j : Int))).toNat = 0 by omega, Nat.pow_zero, Nat.mod_one]
    have hw : double.nearest (sgn x) (unitsOf (rung x) / U) 0 = double.word (sgn x) (rung x) := by
      rw [← nearest_units (sgn x) h, hd, Nat.mul_div_cancel _ hU, U_eq, ← Nat.shiftLeft_eq (m * 2 ^ (j - 1074)) K, nearest_scale, K_eq, zero_place]
    have : unitsOf (rung x) / U + (sgn x && (0 : Nat) != 0).toNat = unitsOf (rung x) / U := by simp
    rw [this, hw]
    refine ⟨isF_word _ h, ?_⟩
    rw [uv_word _ h]
    have hdv : ((unitsOf (rung x) : Nat) : Int) = ((m * 2 ^ (j - 1074) : Nat) : Int) * (U : Int) := by rw [hd]; simp
    have hU' : (U : Int) ≠ 0 := by omega
    unfold uv
    cases sgn x
    · rw [if_neg (by simp), hdv, Int.mul_ediv_cancel _ hU']
    · rw [if_pos rfl, hdv, ← Int.neg_mul, Int.mul_ediv_cancel _ hU']
  · rw [show (-1074 + (j : Int)).toNat = 0 by omega, Nat.shiftLeft_zero, show (-(-1074 + (j : Int))).toNat = 1074 - j by omega]
    have hm : (m % 2 ^ (1074 - j) != 0) = (unitsOf (rung x) % U != 0) := by
      rw [← h2, units_mod m j (by omega), Bool.eq_iff_iff, bne_iff_ne, bne_iff_ne]
      have := Nat.two_pow_pos j
      constructor
      · intro hn hz
        rcases Nat.mul_eq_zero.1 hz with hz | hz
        · exact hn hz
        · omega
      · intro hn hz; exact hn (by rw [hz]; simp)
    rw [hm]
    have hle : unitsOf (rung x) / U ≤ 4503599627370496 := by
      rw [← h2, units_div, show (-1074 + (j : Int)).toNat = 0 by omega, Nat.shiftLeft_zero, show (-(-1074 + (j : Int))).toNat = 1074 - j by omega]
      have h5 : m / 2 ^ (1074 - j) ≤ m / 2 ^ 1 := Nat.div_le_div_left (Nat.pow_le_pow_right (by omega) (by omega)) (by omega)
      omega
    have hb : (sgn x && unitsOf (rung x) % U != 0).toNat ≤ 1 := Bool.toNat_le _
    obtain ⟨r, hr, hu⟩ := rung_of53 (unitsOf (rung x) / U + (sgn x && unitsOf (rung x) % U != 0).toNat) K (by omega) (by rw [K_eq]; omega)
    have hw : double.nearest (sgn x) (unitsOf (rung x) / U + (sgn x && unitsOf (rung x) % U != 0).toNat) 0 = double.word (sgn x) r := by
      rw [← nearest_units _ hr, hu, ← Nat.shiftLeft_eq, nearest_scale, K_eq, zero_place]
    rw [hw]
    refine ⟨isF_word _ hr, ?_⟩
    rw [uv_word _ hr, hu, ← U_eq]
    unfold uv
    cases sgn x
    · rw [if_neg (by simp), if_neg (by simp)]; simp
    · rw [if_pos rfl, if_pos rfl, floor_neg _ _ hU, Int.neg_mul]
      simp

end Go.Fl
