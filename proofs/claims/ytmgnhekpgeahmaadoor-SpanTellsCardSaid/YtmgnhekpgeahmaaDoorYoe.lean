/- The year of an era of 400 years, by formula. -/
import Derived.WalkKit
namespace Go.Yoe

/-- The days ahead of year k of an era (years begin in March). -/
def st (k : Nat) : Nat := 365 * k + k / 4 - k / 100 + k / 400
/-- What the formula divides by 365. -/
def num (d : Nat) : Nat := d - d / 1460 + d / 36524 - d / 146096
def yoe (d : Nat) : Nat := num d / 365

theorem num_step (d : Nat) : num d ≤ num (d + 1) := by unfold num; omega
theorem num_mono (a k : Nat) : num a ≤ num (a + k) := by
  induction k with
  | zero => exact Nat.le_refl _
  | succ k ih => exact Nat.le_trans ih (num_step (a + k))
theorem yoe_mono {a b : Nat} (h : a ≤ b) : yoe a ≤ yoe b := by
  obtain ⟨k, rfl⟩ : ∃ k, b = a + k := ⟨b - a, by omega⟩
  exact Nat.div_le_div_right (num_mono a k)

def okYear (k : Nat) : Bool := yoe (st k) == k && yoe (st (k + 1) - 1) == k
def okTo : Nat → Bool
  | 0 => true
  | k + 1 => okYear k && okTo k
theorem okTo_spec : ∀ n, okTo n = true → ∀ k, k < n → okYear k = true
  | 0, _, k, hk => by omega
  | n + 1, h, k, hk => by
    simp only [okTo, Bool.and_eq_true] at h
    by_cases hkn : k = n
    · rw [hkn]; exact h.1
    · exact okTo_spec n h.2 k (by omega)
theorem ok_all : okTo 400 = true := by decide +kernel

theorem st_mono (k : Nat) : st k + 365 ≤ st (k + 1) ∧ st (k + 1) ≤ st k + 366 := by unfold st; omega

theorem find (d : Nat) : ∀ n, d < st n → ∃ k, k < n ∧ st k ≤ d ∧ d < st (k + 1)
  | 0, h => by simp [st] at h
  | n + 1, h => by
    by_cases hd : d < st n
    · obtain ⟨k, hk, h1, h2⟩ := find d n hd
      exact ⟨k, by omega, h1, h2⟩
    · exact ⟨n, by omega, by omega, h⟩

theorem yoe_spec (d : Nat) (h : d < 146097) : yoe d < 400 ∧ st (yoe d) ≤ d ∧ d < st (yoe d + 1) := by
  obtain ⟨k, hk, h1, h2⟩ := find d 400 (by have : st 400 = 146097 := by decide +kernel
                                           omega)
  have ok := okTo_spec 400 ok_all k hk
  simp only [okYear, Bool.and_eq_true, beq_iff_eq] at ok
  have a := yoe_mono h1
  have b := yoe_mono (show d ≤ st (k + 1) - 1 by omega)
  have : yoe d = k := by omega
  rw [this]
  exact ⟨hk, h1, h2⟩

theorem yoe_int (d : Int) (h0 : 0 ≤ d) (h1 : d < 146097) : ∃ y : Int, (d - d / 1460 + d / 36524 - d / 146096) / 365 = y ∧ 0 ≤ y ∧ y ≤ 399 ∧ 365 * y + y / 4 - y / 100 ≤ d ∧ d < 365 * (y + 1) + (y + 1) / 4 - (y + 1) / 100 + (y + 1) / 400 := by
  obtain ⟨n, rfl⟩ := Int.eq_ofNat_of_zero_le h0
  have := yoe_spec n (by omega)
  refine ⟨yoe n, ?_, by omega, by omega, ?_, ?_⟩
  · unfold yoe num; omega
  · have := this.2.1; unfold st at this; omega
  · have h3 := this.2.2
    have e : (yoe n : Int) + 1 = ((yoe n + 1 : Nat) : Int) := by omega
    rw [e]
    generalize yoe n + 1 = k at h3
    unfold st at h3
    omega

end Go.Yoe
