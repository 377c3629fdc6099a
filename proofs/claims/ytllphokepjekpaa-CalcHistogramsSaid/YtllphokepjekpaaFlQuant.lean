/- Where the rank of a quantile lies; quantiles of classes. -/
import Derived.Test.YtllphokepjekpaaFlOps
import Derived.Test.YtllphokepjekpaaFlOrd
namespace Go.Fl
open Ieee

def w1 : Nat := 4607182418800017408
def pinf : Nat := 9218868437227405312
def ninf : Nat := 18442240474082181120
theorem w1_eq : w1 = wz 1 := by decide +kernel
theorem fv_zero : isF 0 ∧ fv 0 = 0 := by
  have h := fv_wz (z := 0) (by decide)
  rw [wz_zero] at h
  exact h
theorem fv_one : isF w1 ∧ fv w1 = 1 := by
  have h := fv_wz (z := 1) (by decide)
  rw [← w1_eq] at h
  exact h

/-- Between two finite words there are finite words alone. -/
theorem isF_of_pl {x a b : Nat} (hx : isN x = false) (ha : isF a) (hb : isF b) (h1 : pl a ≤ pl x) (h2 : pl x ≤ pl b) : isF x := by
  rw [pl_fin ha] at h1
  rw [pl_fin hb] at h2
  unfold pl at h1 h2
  rw [hx] at h1 h2
  simp only [Bool.false_eq_true, if_false] at h1 h2
  unfold isF at *
  cases e1 : sgn x <;> cases e2 : sgn a <;> cases e3 : sgn b <;> simp only [e1, e2, e3, Bool.false_eq_true, if_false, if_true] at h1 h2 <;> omega

/-- Numbers of zero to one. -/
def unit01 (q : Nat) : Prop := isN q = false ∧ (ford q 0 == some .lt) = false ∧ (ford q w1 == some .gt) = false

theorem unit_fin {q : Nat} (h : unit01 q) : isF q ∧ 0 ≤ fv q ∧ fv q ≤ 1 := by
  obtain ⟨h1, h2, h3⟩ := h
  have n0 : isN 0 = false := by decide +kernel
  have n1 : isN w1 = false := by decide +kernel
  have a1 : pl 0 ≤ pl q := by
    rw [ford_pl h1 n0] at h2
    rcases Int.lt_or_le (pl q) (pl 0) with h | h
    · rw [Std.compare_eq_lt.2 h] at h2; simp at h2
    · exact h
  have a2 : pl q ≤ pl w1 := by
    rw [ford_pl h1 n1] at h3
    rcases Int.lt_or_le (pl w1) (pl q) with h | h
    · rw [Std.compare_eq_gt.2 h] at h3; simp at h3
    · exact h
  have f0 := fv_zero
  have f1 := fv_one
  have hf := isF_of_pl h1 f0.1 f1.1 a1 a2
  refine ⟨hf, ?_, ?_⟩
  · rw [← f0.2, fv_le]
    have := uv_lt_iff hf f0.1
    omega
  · rw [← f1.2, fv_le]
    have := uv_lt_iff f1.1 hf
    omega

/-- The rank of a quantile of n numbers. -/
def rankQ (q n : Nat) : Nat := fmul q (wz ((n : Int) - 1))
/-- The place below it, its weight. -/
def placeQ (q n : Nat) : Nat := (flI (rankQ q n)).toNat
def weightQ (q n : Nat) : Nat := fsub (rankQ q n) (ffloor (rankQ q n))

theorem rank_fin {q n : Nat} (h : unit01 q) (hn : 1 ≤ n) (hb : n ≤ 9007199254740992) : isF (rankQ q n) ∧ 0 ≤ fv (rankQ q n) ∧ fv (rankQ q n) ≤ (((n : Int) - 1 : Int) : Rat) := by
  obtain ⟨hq, q0, q1⟩ := unit_fin h
  obtain ⟨hm, mv⟩ := fv_wz (z := (n : Int) - 1) (by omega)
  have f0 := fv_zero
  have m0 : (0 : Rat) ≤ fv (wz ((n : Int) - 1)) := by
    rw [mv]
    have := Rat.intCast_le_intCast.2 (show (0 : Int) ≤ (n : Int) - 1 by omega)
    simpa using this
  have hr := mul_rd hq hm
  have p0 := Rat.mul_nonneg q0 m0
  have p1 := Rat.mul_le_mul_of_nonneg_right q1 m0
  have e1 : (1 : Rat) * fv (wz ((n : Int) - 1)) = fv (wz ((n : Int) - 1)) := Rat.one_mul _
  rw [e1] at p1
  have hf : isF (fmul q (wz ((n : Int) - 1))) := hr.fin 0 (wz ((n : Int) - 1)) f0.1 hm (by rw [f0.2]; exact p0) p1
  refine ⟨hf, ?_, ?_⟩
  · have := hr.ge 0 f0.1 hf (by rw [f0.2]; exact p0)
    rwa [f0.2] at this
  · have := hr.le _ hm hf p1
    rwa [mv] at this

theorem floor_rank {q n : Nat} (h : unit01 q) (hn : 1 ≤ n) (hb : n ≤ 9007199254740992) : 0 ≤ flI (rankQ q n) ∧ flI (rankQ q n) ≤ (n : Int) - 1 := by
  obtain ⟨hf, r0, r1⟩ := rank_fin h hn hb
  have a := flI_le (rankQ q n)
  have b := lt_flI (rankQ q n)
  constructor
  · have h1 : ((0 : Int) : Rat) < ((flI (rankQ q n) + 1 : Int) : Rat) := by
      rw [Rat.intCast_add]
      have e0 : ((0 : Int) : Rat) = 0 := rfl
      have e1 : ((1 : Int) : Rat) = 1 := rfl
      rw [e0, e1]
      grind
    have := Rat.intCast_lt_intCast.1 h1
    omega
  · exact Rat.intCast_le_intCast.1 (Rat.le_trans a r1)
theorem place_lt {q n : Nat} (h : unit01 q) (hn : 1 ≤ n) (hb : n ≤ 9007199254740992) : placeQ q n < n := by
  have := floor_rank h hn hb
  unfold placeQ; omega

/-- The conversion of the rank's floor. -/
theorem rank_conv {q n r : Nat} (h : unit01 q) (hn : 1 ≤ n) (hb : n ≤ 9007199254740992) (hr : cn r = ffloor (rankQ q n)) : floatToIntVal .f64 r .i64 = some ((placeQ q n : Nat) : Int) := by
  obtain ⟨hf, _, _⟩ := rank_fin h hn hb
  obtain ⟨f1, f2⟩ := ffloor_fin hf
  have fl := floor_rank h hn hb
  have hrr : r = ffloor (rankQ q n) := by
    have h2 : isN r = false := by rw [← isN_cn, hr]; exact isF_notN f1
    rw [← hr, cn_of_notN h2]
  have hU : (0 : Int) < (U : Int) := by have := U_pos; omega
  rw [hrr, toIntVal_fin (lo := 0) (hi := 9007199254740992) f1 ?_ ?_ (by omega) (by omega), f2]
  · rw [Int.mul_tdiv_cancel _ (by omega)]
    unfold placeQ
    have : (uv (rankQ q n) / (U : Int)) = flI (rankQ q n) := rfl
    rw [this]
    congr 1
    omega
  · rw [f2, Int.zero_mul]
    exact Int.mul_nonneg fl.1 (Int.le_of_lt hU)
  · rw [f2]
    exact Int.mul_le_mul_of_nonneg_right (by have := fl.2; unfold flI at this; omega) (Int.le_of_lt hU)

/-- The number at a place (behind the end: 0). -/
def atC (xs : List Nat) (i : Nat) : Nat := xs.getD i 0

/-- A quantile of sorted classes. -/
def quantSorted (q : Nat) (s : List Nat) : Nat :=
  if (ford (weightQ q s.length) 0 == some .eq) = true then atC s (placeQ q s.length)
  else fadd (fmul (atC s (placeQ q s.length)) (fsub w1 (weightQ q s.length))) (fmul (atC s (min (placeQ q s.length + 1) (s.length - 1))) (weightQ q s.length))

/-- A quantile of classes. -/
def quantS (q : Nat) (cs : List Nat) : Nat :=
  if cs.length = 0 then nanc else if isN q = true then nanc else if (ford q 0 == some .lt) = true then ninf else if (ford q w1 == some .gt) = true then pinf else quantSorted q (sortC cs)

end Go.Fl
