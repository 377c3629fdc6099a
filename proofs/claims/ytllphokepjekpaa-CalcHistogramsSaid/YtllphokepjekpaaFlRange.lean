/- Numbers between two numbers; conversion of such to integers. -/
import Derived.Test.YtllphokepjekpaaFlInt
import Derived.Laws.FloatArith
namespace Go.Fl
open Ieee

theorem isF_of_read {x : Nat} {s : Bool} {m : Nat} {p : Int} (h : double.read x = .number s m p) : isF x := by
  unfold Format.read at h
  dsimp only at h
  rw [sw_eq, binade_eq, infRung_eq] at h
  unfold isF rung
  by_cases h1 : x % 9223372036854775808 < 4503599627370496
  · omega
  · rw [if_neg h1] at h
    by_cases h2 : x % 9223372036854775808 < 9218868437227405312
    · exact h2
    · rw [if_neg h2] at h
      split at h <;> cases h

def fge' (x y : Nat) : Bool := ford x y == some .gt || ford x y == some .eq
def fle' (x y : Nat) : Bool := ford x y == some .lt || ford x y == some .eq

/-- What stands between two numbers is a number. -/
theorem isF_between {x a b : Nat} (ha : isF a) (hb : isF b) (h1 : fge' x a = true) (h2 : fle' x b = true) : isF x := by
  cases hr : double.read x with
  | number s m p => exact isF_of_read hr
  | nan s t => unfold fge' ford Format.order at h1; rw [hr] at h1; simp [Datum.order] at h1
  | infinity s =>
    obtain ⟨m, j, ra, _⟩ := read_fin ha
    obtain ⟨n, k, rb, _⟩ := read_fin hb
    unfold fge' ford Format.order at h1
    unfold fle' ford Format.order at h2
    rw [hr, ra] at h1
    rw [hr, rb] at h2
    cases s <;> simp [Datum.order] at h1 h2

theorem uv_between {x a b : Nat} (ha : isF a) (hb : isF b) (h1 : fge' x a = true) (h2 : fle' x b = true) : uv a ≤ uv x ∧ uv x ≤ uv b := by
  have hx := isF_between ha hb h1 h2
  unfold fge' at h1
  unfold fle' at h2
  rw [order_fin hx ha] at h1
  rw [order_fin hx hb] at h2
  constructor
  · by_cases h : uv a ≤ uv x
    · exact h
    · rw [Std.compare_eq_lt.2 (show uv x < uv a by omega)] at h1; simp at h1
  · by_cases h : uv x ≤ uv b
    · exact h
    · rw [Std.compare_eq_gt.2 (show uv b < uv x by omega)] at h2; simp at h2

/-- A number's whole part, if it is no longer than 2 to the power 62. -/
theorem toIntVal_fin {x : Nat} {lo hi : Int} (h : isF x) (h1 : lo * (U : Int) ≤ uv x) (h2 : uv x ≤ hi * (U : Int)) (hlo : -4611686018427387904 ≤ lo ∧ lo ≤ 0) (hhi : 0 ≤ hi ∧ hi ≤ 4611686018427387904) :
    floatToIntVal .f64 x .i64 = some ((uv x).tdiv (U : Int)) := by
  unfold floatToIntVal
  show (match (double.read x).toInt .zero with | some n => _ | none => _) = _
  rw [toInt_fin h]
  dsimp only
  have hU : (0 : Int) < (U : Int) := by exact_mod_cast U_pos
  have hb : ((uv x).tdiv (U : Int)).natAbs ≤ 4611686018427387904 := by
    rw [Int.natAbs_tdiv, Int.natAbs_natCast]
    refine Nat.div_le_of_le_mul ?_
    have hab : (uv x).natAbs ≤ 4611686018427387904 * U := by
      have e1 : lo * (U : Int) ≥ -(4611686018427387904 * (U : Int)) := by
        rw [← Int.neg_mul]; exact Int.mul_le_mul_of_nonneg_right (by omega) (by omega)
      have e2 : hi * (U : Int) ≤ 4611686018427387904 * (U : Int) := Int.mul_le_mul_of_nonneg_right (by omega) (by omega)
      have e3 : ((4611686018427387904 * U : Nat) : Int) = 4611686018427387904 * (U : Int) := by simp
      omega
    rw [Nat.mul_comm]; exact hab
  have e1 : IntKind.i64.min = -9223372036854775808 := rfl
  have e2 : IntKind.i64.max = 9223372036854775807 := rfl
  rw [if_pos (by rw [e1, e2]; omega)]

theorem ffloor_cn (x : Nat) : ffloor (cn x) = ffloor x := by
  cases h : isN x
  · rw [cn_of_notN h]
  · rw [cn_of_N h]; unfold ffloor; rw [h, isN_nanc]; rfl

end Go.Fl
