/- Back again: the exponential's sums are told apart; from a sum near the logarithm's to the exponent that it came from. -/
import Derived.Test.YtllphokepjekpaaBackB
namespace Go.Fl
open Ieee
set_option linter.unusedVariables false

theorem cast_ge2 {i : Int} (h : 2 ≤ i) : (2 : Rat) ≤ ((i : Int) : Rat) := Rat.intCast_le_intCast.2 h

theorem div_bd {N M : Rat} {i : Int} (h : 2 ≤ i) (n1 : -(2 * M) ≤ N) (n2 : N ≤ 2 * M) (hM : 0 ≤ M) : -M ≤ N / ((i : Int) : Rat) ∧ N / ((i : Int) : Rat) ≤ M := by
  have i2 := cast_ge2 h
  have ip : (0 : Rat) < ((i : Int) : Rat) := by grind
  have hcan : N / ((i : Int) : Rat) * ((i : Int) : Rat) = N := div_cancel ip
  have hm : 0 ≤ M * (((i : Int) : Rat) - 2) := Rat.mul_nonneg hM (by grind)
  constructor
  · refine le_of_mul_le ip ?_
    rw [hcan]; grind
  · refine le_of_mul_le ip ?_
    rw [hcan]; grind

theorem exq_in {a : Rat} (a1 : -(36 / 100) ≤ a) (a2 : a ≤ 36 / 100) : ∀ j : Nat, j ≤ 13 → 775 / 1000 ≤ exq a j ∧ exq a j ≤ 1225 / 1000
  | 0, _ => by simp only [exq]; constructor <;> grind
  | j + 1, h => by
    obtain ⟨b1, b2⟩ := exq_in a1 a2 j (by omega)
    have m := mul_bd (A := 36 / 100) (B := 1225 / 1000) a1 a2 (show -(1225 / 1000) ≤ exq a j by grind) b2
    obtain ⟨d1, d2⟩ := div_bd (i := 14 - (j : Int)) (M := 225 / 1000) (by omega) (show -(2 * (225 / 1000)) ≤ a * exq a j by grind) (by grind) (by grind)
    simp only [exq]
    constructor <;> grind

/-- Two sums are as far apart as what they are sums of. -/
theorem exq_diff {a b : Rat} (a1 : -(36 / 100) ≤ a) (a2 : a ≤ 36 / 100) (b1 : -(36 / 100) ≤ b) (b2 : b ≤ 36 / 100) :
    ∀ j : Nat, j ≤ 13 → ∃ D, exq a j - exq b j = (a - b) * D ∧ -(3 / 4) ≤ D ∧ D ≤ 3 / 4
  | 0, _ => ⟨0, by simp only [exq]; grind, by grind, by grind⟩
  | j + 1, h => by
    obtain ⟨D, e, d1, d2⟩ := exq_diff a1 a2 b1 b2 j (by omega)
    obtain ⟨c1, c2⟩ := exq_in a1 a2 j (by omega)
    have m := mul_bd (A := 36 / 100) (B := 3 / 4) b1 b2 d1 d2
    obtain ⟨f1, f2⟩ := div_bd (i := 14 - (j : Int)) (M := 3 / 4) (N := exq a j + b * D) (by omega) (by grind) (by grind) (by grind)
    refine ⟨_, ?_, f1, f2⟩
    simp only [exq]
    have i2 := cast_ge2 (i := 14 - (j : Int)) (by omega)
    have ip : (0 : Rat) < ((14 - (j : Int) : Int) : Rat) := by grind
    have x1 : a * exq a j / ((14 - (j : Int) : Int) : Rat) * ((14 - (j : Int) : Int) : Rat) = a * exq a j := div_cancel ip
    have x2 : b * exq b j / ((14 - (j : Int) : Int) : Rat) * ((14 - (j : Int) : Int) : Rat) = b * exq b j := div_cancel ip
    have x3 : (exq a j + b * D) / ((14 - (j : Int) : Int) : Rat) * ((14 - (j : Int) : Int) : Rat) = exq a j + b * D := div_cancel ip
    generalize a * exq a j / ((14 - (j : Int) : Int) : Rat) = p at *
    generalize b * exq b j / ((14 - (j : Int) : Int) : Rat) = q at *
    generalize (exq a j + b * D) / ((14 - (j : Int) : Int) : Rat) = s at *
    generalize ((14 - (j : Int) : Int) : Rat) = i at *
    have key : (p - q) * i = (a - b) * s * i := by
      have y1 : (p - q) * i = a * exq a j - b * exq b j := by grind
      have y2 : (a - b) * s * i = (a - b) * (exq a j + b * D) := by grind
      have y3 : a * exq a j - b * exq b j = (a - b) * exq a j + b * (exq a j - exq b j) := by grind
      rw [y1, y2, y3, e]
      grind
    have hz : (p - q - (a - b) * s) * i = 0 := by grind
    have : p - q - (a - b) * s = 0 := by
      rcases Rat.mul_eq_zero.1 hz with h | h
      · exact h
      · grind
    grind

theorem exq_far {a b : Rat} (a1 : -(36 / 100) ≤ a) (a2 : a ≤ 36 / 100) (b1 : -(36 / 100) ≤ b) (b2 : b ≤ 36 / 100) : ∃ D, exq a 14 - exq b 14 = (a - b) * D ∧ 1 / 2 ≤ D ∧ D ≤ 3 / 2 := by
  obtain ⟨D, e, d1, d2⟩ := exq_diff a1 a2 b1 b2 13 (by omega)
  obtain ⟨c1, c2⟩ := exq_in a1 a2 13 (by omega)
  have m := mul_bd (A := 36 / 100) (B := 3 / 4) b1 b2 d1 d2
  have one : ((14 - ((13 : Nat) : Int) : Int) : Rat) = 1 := rfl
  have ea : exq a 14 = 1 + a * exq a 13 / ((14 - ((13 : Nat) : Int) : Int) : Rat) := rfl
  have eb : exq b 14 = 1 + b * exq b 13 / ((14 - ((13 : Nat) : Int) : Int) : Rat) := rfl
  rw [one] at ea eb
  refine ⟨exq a 13 + b * D, ?_, by grind, by grind⟩
  have y3 : a * exq a 13 - b * exq b 13 = (a - b) * exq a 13 + b * (exq a 13 - exq b 13) := by grind
  rw [ea, eb]
  rw [e] at y3
  grind

/-- Sums that are near come from what is near .. -/
theorem exq_near {a b M : Rat} (a1 : -(36 / 100) ≤ a) (a2 : a ≤ 36 / 100) (b1 : -(36 / 100) ≤ b) (b2 : b ≤ 36 / 100) (h1 : exq a 14 - exq b 14 ≤ M) (h2 : exq b 14 - exq a 14 ≤ M) : a - b ≤ 2 * M ∧ b - a ≤ 2 * M := by
  obtain ⟨D, e, d1, d2⟩ := exq_far a1 a2 b1 b2
  constructor
  · rcases Rat.le_total (a := 0) (b := a - b) with h | h
    · have := Rat.mul_nonneg h (show (0 : Rat) ≤ D - 1 / 2 by grind)
      grind
    · grind
  · rcases Rat.le_total (a := 0) (b := b - a) with h | h
    · have := Rat.mul_nonneg h (show (0 : Rat) ≤ D - 1 / 2 by grind)
      grind
    · grind
/-- .. and what is near has sums that are near. -/
theorem exq_lip {a b M : Rat} (a1 : -(36 / 100) ≤ a) (a2 : a ≤ 36 / 100) (b1 : -(36 / 100) ≤ b) (b2 : b ≤ 36 / 100) (h1 : a - b ≤ M) (h2 : b - a ≤ M) : exq a 14 - exq b 14 ≤ 3 / 2 * M ∧ exq b 14 - exq a 14 ≤ 3 / 2 * M := by
  obtain ⟨D, e, d1, d2⟩ := exq_far a1 a2 b1 b2
  have m := mul_bd (A := M) (B := 3 / 2) (show -M ≤ a - b by grind) h1 (show -(3 / 2) ≤ D by grind) d2
  constructor <;> grind
/-- A greater sum, a greater exponent, nearly. -/
theorem exq_up {a b M : Rat} (a1 : -(36 / 100) ≤ a) (a2 : a ≤ 36 / 100) (b1 : -(36 / 100) ≤ b) (b2 : b ≤ 36 / 100) (h1 : exq a 14 - exq b 14 ≤ M) (hM : 0 ≤ M) : a - b ≤ 2 * M := by
  obtain ⟨D, e, d1, d2⟩ := exq_far a1 a2 b1 b2
  rcases Rat.le_total (a := 0) (b := a - b) with h | h
  · have := Rat.mul_nonneg h (show (0 : Rat) ≤ D - 1 / 2 by grind)
    grind
  · grind

/-- Half the logarithm of two, as both sides have it. -/
def qC : Rat := (5954088943 / 8589934592 + 5756898648422637 / 77371252455336267181195264) / 2
def qHalf : Rat := 6369051672525773 / 9007199254740992
theorem qC_in : 346573 / 1000000 ≤ qC ∧ qC ≤ 346574 / 1000000 := by unfold qC; constructor <;> decide +kernel
theorem c_two : exq qC 14 - 2 * exq (-qC) 14 ≤ 1 / 1000000000000000000 ∧ 2 * exq (-qC) 14 - exq qC 14 ≤ 1 / 1000000000000000000 := by constructor <;> decide +kernel
theorem c_half : exq (-qC) 14 - qHalf ≤ eps / 2 ∧ qHalf - exq (-qC) 14 ≤ eps / 2 := by unfold eps; constructor <;> decide +kernel
theorem half_lits : isF cHalf ∧ fv cHalf = qHalf := by
  refine ⟨isF_small (by decide), ?_⟩
  have := fv_lit (c := cHalf) (den := 9007199254740992) (num := 6369051672525773) (by decide +kernel)
  have h1 : nq 9007199254740992 = 9007199254740992 := rfl
  have h2 : nq 6369051672525773 = 6369051672525773 := rfl
  rw [h1, h2] at this
  unfold qHalf
  grind
theorem eps_q : 1 / 1000000000000000000 ≤ eps / 200 ∧ 1 / 100000000000000000 ≤ eps / 20 := by unfold eps; constructor <;> decide +kernel

/-- m's logarithm is a, nearly. -/
theorem undo_m {M z : Rat} (hz : z * (M + 1) = M - 1) (hM : 7 / 10 ≤ M) (hM2 : M ≤ 3 / 2) (z1 : -(172 / 1000) ≤ z) (z2 : z ≤ 172 / 1000) : exq (lnq z) 14 - M ≤ eps / 10 ∧ M - exq (lnq z) 14 ≤ eps / 10 := by
  obtain ⟨u1, u2⟩ := undo z1 z2
  obtain ⟨q1, q2⟩ := eps_q
  have e1 : M * (1 - z) = 1 + z := by grind
  have hp : (0 : Rat) < 1 - z := by grind
  have he := eps_pos
  have h3 : 0 ≤ eps / 10 * ((1 - z) - 1 / 2) := Rat.mul_nonneg (by grind) (by grind)
  constructor
  · refine le_of_mul_le hp ?_
    have : (exq (lnq z) 14 - M) * (1 - z) = (1 - z) * exq (lnq z) 14 - (1 + z) := by grind
    rw [this]; grind
  · refine le_of_mul_le hp ?_
    have : (M - exq (lnq z) 14) * (1 - z) = (1 + z) - (1 - z) * exq (lnq z) 14 := by grind
    rw [this]; grind

/-- From the sum to the exponent: j twos were taken out. g: how far r may be beyond its bounds. -/
theorem back_same {S R M z : Rat} (r1 : -(36 / 100) ≤ R) (r2 : R ≤ 36 / 100) (s1 : S - exq R 14 ≤ 8 * eps) (s2 : exq R 14 - S ≤ 8 * eps)
    (hz : z * (M + 1) = M - 1) (hM : 7 / 10 ≤ M) (hM2 : M ≤ 3 / 2) (z1 : -(172 / 1000) ≤ z) (z2 : z ≤ 172 / 1000) (a1 : -(36 / 100) ≤ lnq z) (a2 : lnq z ≤ 36 / 100)
    (h : M = S) : lnq z - R ≤ 17 * eps ∧ R - lnq z ≤ 17 * eps := by
  obtain ⟨u1, u2⟩ := undo_m hz hM hM2 z1 z2
  have he := eps_pos
  obtain ⟨n1, n2⟩ := exq_near (M := 81 / 10 * eps) a1 a2 r1 r2 (by grind) (by grind)
  constructor <;> grind

theorem back_below {S R M z g : Rat} (r1 : -(36 / 100) ≤ R) (r2 : R ≤ 36 / 100) (s1 : S - exq R 14 ≤ 8 * eps) (s2 : exq R 14 - S ≤ 8 * eps)
    (hz : z * (M + 1) = M - 1) (hM : 7 / 10 ≤ M) (hM2 : M ≤ 3 / 2) (z1 : -(172 / 1000) ≤ z) (z2 : z ≤ 172 / 1000) (a1 : -(36 / 100) ≤ lnq z) (a2 : lnq z ≤ 36 / 100)
    (h : M = 2 * S) (hs : S ≤ qHalf) (g0 : 0 ≤ g) (hr : -qC - g ≤ R) : lnq z - 2 * qC - R ≤ 180 * eps + 7 * g ∧ R + 2 * qC - lnq z ≤ 180 * eps + 7 * g := by
  obtain ⟨u1, u2⟩ := undo_m hz hM hM2 z1 z2
  have he := eps_pos
  obtain ⟨c1, c2⟩ := qC_in
  obtain ⟨t1, t2⟩ := c_two
  obtain ⟨h1, h2⟩ := c_half
  obtain ⟨q1, q2⟩ := eps_q
  have b1 : -(36 / 100) ≤ -qC := by grind
  have b2 : -qC ≤ 36 / 100 := by grind
  have b3 : -(36 / 100) ≤ qC := by grind
  have b4 : qC ≤ 36 / 100 := by grind
  have hu := exq_up (M := 85 / 10 * eps) r1 r2 b1 b2 (by grind) (by grind)
  obtain ⟨l1, l2⟩ := exq_lip (M := g + 17 * eps) r1 r2 b1 b2 (by grind) (by grind)
  obtain ⟨n1, n2⟩ := exq_near (M := 162 / 10 * eps + 3 * (g + 17 * eps)) a1 a2 b3 b4 (by grind) (by grind)
  constructor <;> grind

theorem back_above {S R M z g : Rat} (r1 : -(36 / 100) ≤ R) (r2 : R ≤ 36 / 100) (s1 : S - exq R 14 ≤ 8 * eps) (s2 : exq R 14 - S ≤ 8 * eps)
    (hz : z * (M + 1) = M - 1) (hM : 7 / 10 ≤ M) (hM2 : M ≤ 3 / 2) (z1 : -(172 / 1000) ≤ z) (z2 : z ≤ 172 / 1000) (a1 : -(36 / 100) ≤ lnq z) (a2 : lnq z ≤ 36 / 100)
    (h : 2 * M = S) (hs : 2 * qHalf ≤ S) (g0 : 0 ≤ g) (hr : R ≤ qC + g) : lnq z + 2 * qC - R ≤ 180 * eps + 7 * g ∧ R - 2 * qC - lnq z ≤ 180 * eps + 7 * g := by
  obtain ⟨u1, u2⟩ := undo_m hz hM hM2 z1 z2
  have he := eps_pos
  obtain ⟨c1, c2⟩ := qC_in
  obtain ⟨t1, t2⟩ := c_two
  obtain ⟨h1, h2⟩ := c_half
  obtain ⟨q1, q2⟩ := eps_q
  have b1 : -(36 / 100) ≤ -qC := by grind
  have b2 : -qC ≤ 36 / 100 := by grind
  have b3 : -(36 / 100) ≤ qC := by grind
  have b4 : qC ≤ 36 / 100 := by grind
  have hu := exq_up (M := 91 / 10 * eps) b3 b4 r1 r2 (by grind) (by grind)
  obtain ⟨l1, l2⟩ := exq_lip (M := g + 19 * eps) r1 r2 b3 b4 (by grind) (by grind)
  obtain ⟨n1, n2⟩ := exq_near (M := 42 / 10 * eps + 3 / 4 * (g + 19 * eps)) a1 a2 b1 b2 (by grind) (by grind)
  constructor <;> grind

end Go.Fl
