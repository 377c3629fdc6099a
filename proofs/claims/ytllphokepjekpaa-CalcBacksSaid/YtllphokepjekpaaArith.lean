/- Go's division and the whole number next below. -/
import Derived.WalkKit
namespace Go.Ar

theorem tdiv_cases (a b : Int) (ha : a < 0) (hb : 0 < b) :
    (a.tmod b < 0 ∧ a / b = a.tdiv b - 1 ∧ a % b = a.tmod b + b) ∨ (a.tmod b = 0 ∧ a / b = a.tdiv b ∧ a % b = 0) := by
  have h1 := Int.tmod_eq_emod (a := a) (b := b)
  have h2 := Int.tdiv_eq_ediv (a := a) (b := b)
  have h3 := Int.emod_nonneg a (show b ≠ 0 by omega)
  have h4 := Int.emod_lt_of_pos a hb
  have hab : (b.natAbs : Int) = b := Int.natAbs_of_nonneg (by omega)
  have hs : b.sign = 1 := Int.sign_eq_one_of_pos hb
  by_cases hd : b ∣ a
  · rw [if_pos (.inr hd)] at h1 h2
    have h5 := Int.emod_eq_zero_of_dvd hd
    exact .inr ⟨by omega, by omega, h5⟩
  · have hn : ¬ (0 ≤ a ∨ b ∣ a) := fun h => h.elim (fun h => (by omega)) hd
    rw [if_neg hn] at h1 h2
    exact .inl ⟨by omega, by omega, by omega⟩

theorem tmod_zero_iff (a b : Int) : a.tmod b = 0 ↔ a % b = 0 := by
  rw [← Int.dvd_iff_emod_eq_zero, Int.dvd_iff_tmod_eq_zero]

theorem ediv_bounds (a b : Int) (hb : 0 < b) : (0 ≤ a → 0 ≤ a / b ∧ a / b ≤ a) ∧ (a < 0 → a ≤ a / b ∧ a / b < 0) := by
  constructor
  · intro h
    exact ⟨Int.ediv_nonneg h (by omega), Int.ediv_le_self b h⟩
  · intro h
    refine ⟨?_, Int.ediv_neg_of_neg_of_pos h hb⟩
    rw [Int.le_ediv_iff_mul_le hb]
    have := Int.mul_nonneg (show (0 : Int) ≤ -a by omega) (show (0 : Int) ≤ b - 1 by omega)
    rw [Int.mul_sub, Int.mul_one, Int.neg_mul] at this
    omega

end Go.Ar
