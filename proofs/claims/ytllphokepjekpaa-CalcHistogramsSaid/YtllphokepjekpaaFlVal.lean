/- Floats as whole numbers of least units (2 to the power -1074): reading, sums, exact results. -/
import Derived.Test.YtllphokepjekpaaFl
namespace Go.Fl
open Ieee

theorem log2_shl (n k : Nat) (hn : n ≠ 0) : (n <<< k).log2 = n.log2 + k := by
  induction k with
  | zero => simp
  | succ k ih =>
    have h : n <<< k ≠ 0 := by
      rw [Nat.shiftLeft_eq]
      exact Nat.mul_ne_zero hn (Nat.ne_of_gt (Nat.two_pow_pos k))
    rw [Nat.shiftLeft_succ, Nat.log2_two_mul h, ih]
    omega

theorem cut_zero (s : Bool) (n : Nat) : Toward.even.cut s n 0 = n := by
  simp [Toward.cut, Nat.mod_one]

theorem cut_scale (s : Bool) (n k d : Nat) (hn : n ≠ 0) : Toward.even.cut s (n <<< k) (d + k) = Toward.even.cut s n d := by
  unfold Toward.cut
  have hmin : min (d + k) ((n <<< k).log2 + 2) = min d (n.log2 + 2) + k := by rw [log2_shl n k hn]; omega
  have hg : (1 : Nat) <<< (min d (n.log2 + 2) + k) = 1 <<< min d (n.log2 + 2) * 2 ^ k := by
    rw [Nat.shiftLeft_eq, Nat.shiftLeft_eq, Nat.pow_add, Nat.mul_assoc]
  have hp := Nat.two_pow_pos k
  simp only [hmin, hg]
  generalize 1 <<< min d (n.log2 + 2) = g
  rw [Nat.shiftLeft_eq, Nat.mul_div_mul_right _ _ hp, Nat.mul_mod_mul_right]
  have h1 : (decide (g * 2 ^ k < 2 * (n % g * 2 ^ k))) = decide (g < 2 * (n % g)) := by
    rw [← Nat.mul_assoc]
    exact decide_eq_decide.2 (Nat.mul_lt_mul_right hp)
  have h2 : (g * 2 ^ k == 2 * (n % g * 2 ^ k)) = (g == 2 * (n % g)) := by
    rw [← Nat.mul_assoc, Bool.eq_iff_iff, beq_iff_eq, beq_iff_eq]
    exact Nat.mul_right_cancel_iff hp
  rw [h1, h2]

theorem cut_shl (s : Bool) (n k d : Nat) (hn : n ≠ 0) (h : d ≤ k) : Toward.even.cut s (n <<< k) d = n <<< (k - d) := by
  have h2 := cut_scale s (n <<< (k - d)) d 0 (by rw [Nat.shiftLeft_eq]; exact Nat.mul_ne_zero hn (Nat.ne_of_gt (Nat.two_pow_pos _)))
  rw [cut_zero, ← Nat.shiftLeft_add, Nat.zero_add, Nat.sub_add_cancel h] at h2
  exact h2

/-- The word nearest to a number is told by the number. -/
theorem nearest_scale (s : Bool) (m k : Nat) (p : Int) : double.nearest s (m <<< k) p = double.nearest s m (p + k) := by
  unfold Format.nearest
  by_cases hm : m = 0
  · subst hm; simp
  · have hm' : m <<< k ≠ 0 := by
      rw [Nat.shiftLeft_eq]
      exact Nat.mul_ne_zero hm (Nat.ne_of_gt (Nat.two_pow_pos k))
    rw [if_neg hm, if_neg hm']
    dsimp only
    have hlast : max (p + ((m <<< k).log2 : Int) - double.fractionBits) double.leastPlace = max (p + k + (m.log2 : Int) - double.fractionBits) double.leastPlace := by
      rw [log2_shl m k hm]; congr 1; omega
    rw [hlast]
    generalize max (p + k + (m.log2 : Int) - double.fractionBits) double.leastPlace = last
    have hk : Toward.even.cut s (m <<< k <<< (p - last).toNat) (last - p).toNat = Toward.even.cut s (m <<< (p + k - last).toNat) (last - (p + k)).toNat := by
      by_cases h1 : p + k ≤ last
      · rw [show (p - last).toNat = 0 by omega, show (p + k - last).toNat = 0 by omega, Nat.shiftLeft_zero, Nat.shiftLeft_zero, show (last - p).toNat = (last - (p + k)).toNat + k by omega, cut_scale s m k _ hm]
      · rw [show (last - (p + k)).toNat = 0 by omega, cut_zero]
        by_cases h2 : last ≤ p
        · rw [show (last - p).toNat = 0 by omega, cut_zero, ← Nat.shiftLeft_add, show k + (p - last).toNat = (p + k - last).toNat by omega]
        · rw [show (p - last).toNat = 0 by omega, Nat.shiftLeft_zero, cut_shl s m k _ hm (by omega), show k - (last - p).toNat = (p + k - last).toNat by omega]
    rw [hk]

theorem lp_eq : double.leastPlace = -1074 := by decide +kernel
theorem binade_eq : double.binade = 4503599627370496 := by decide +kernel
theorem infRung_eq : double.infRung = 9218868437227405312 := by decide +kernel
theorem sw_eq : double.signWeight = 9223372036854775808 := by decide +kernel

/-- The least units of a rung. -/
def unitsOf (r : Nat) : Nat := if r < 4503599627370496 then r else (4503599627370496 + r % 4503599627370496) * 2 ^ (r / 4503599627370496 - 1)

def sgn (x : Nat) : Bool := x / 9223372036854775808 % 2 == 1
def rung (x : Nat) : Nat := x % 9223372036854775808
/-- A number (no infinity, no NaN). -/
def isF (x : Nat) : Prop := rung x < 9218868437227405312
/-- A number's least units, with its sign. -/
def uv (x : Nat) : Int := if sgn x then -(unitsOf (rung x) : Int) else unitsOf (rung x)

theorem read_fin {x : Nat} (h : isF x) : ∃ m j : Nat, double.read x = .number (sgn x) m (-1074 + (j : Int)) ∧ m * 2 ^ j = unitsOf (rung x) := by
  unfold isF rung at h
  unfold Format.read sgn
  dsimp only
  rw [sw_eq, binade_eq, infRung_eq, lp_eq]
  unfold unitsOf rung
  by_cases h1 : x % 9223372036854775808 < 4503599627370496
  · rw [if_pos h1, if_pos h1]
    exact ⟨_, 0, rfl, by simp⟩
  · rw [if_neg h1, if_neg h1, if_pos h]
    exact ⟨_, _, rfl, rfl⟩

theorem signed_mul (s : Bool) (m a b : Nat) (h : b ≤ a) : signed s m (a - b) * (2 ^ b : Nat) = if s then -((m * 2 ^ a : Nat) : Int) else ((m * 2 ^ a : Nat) : Int) := by
  have h2 : m <<< (a - b) * 2 ^ b = m * 2 ^ a := by
    rw [Nat.shiftLeft_eq, Nat.mul_assoc, ← Nat.pow_add, Nat.sub_add_cancel h]
  unfold signed
  cases s
  · rw [if_neg (by simp), if_neg (by simp), ← Int.natCast_mul, h2]
  · rw [if_pos rfl, if_pos rfl, Int.neg_mul, ← Int.natCast_mul, h2]

/-- The word of a whole number of least units. -/
def roundU (z : Bool) (n : Int) : Nat := double.nearest (if n = 0 then z else decide (n < 0)) n.natAbs (-1074)

theorem sum_round (s t : Bool) (m n a b : Nat) : (Datum.sum (.number s m (-1074 + (a : Int))) (.number t n (-1074 + (b : Int)))).map double.write = some (roundU (s && t) ((if s then -((m * 2 ^ a : Nat) : Int) else ((m * 2 ^ a : Nat) : Int)) + (if t then -((n * 2 ^ b : Nat) : Int) else ((n * 2 ^ b : Nat) : Int)))) := by
  unfold Datum.sum
  dsimp only
  have hb : min (-1074 + (a : Int)) (-1074 + (b : Int)) = -1074 + (min a b : Nat) := by omega
  have ha1 : (-1074 + (a : Int) - (-1074 + ((min a b : Nat) : Int))).toNat = a - min a b := by omega
  have hb1 : (-1074 + (b : Int) - (-1074 + ((min a b : Nat) : Int))).toNat = b - min a b := by omega
  rw [hb, ha1, hb1, ← signed_mul s m a (min a b) (by omega), ← signed_mul t n b (min a b) (by omega), ← Int.add_mul]
  generalize signed s m (a - min a b) + signed t n (b - min a b) = T
  generalize min a b = k
  have hp : (0 : Int) < ((2 ^ k : Nat) : Int) := by exact_mod_cast Nat.two_pow_pos k
  unfold roundU
  simp only [Option.map_some, Option.some.injEq]
  show double.nearest _ _ _ = _
  have hn : (T * ((2 ^ k : Nat) : Int)).natAbs = T.natAbs <<< k := by
    rw [Int.natAbs_mul, Int.natAbs_natCast, Nat.shiftLeft_eq]
  rw [hn, nearest_scale]
  congr 1
  by_cases h0 : T = 0
  · subst h0; simp
  · rw [if_neg h0, if_neg (by intro h; rcases Int.mul_eq_zero.1 h with h | h <;> omega)]
    by_cases hneg : T < 0
    · have h : T * ((2 ^ k : Nat) : Int) < 0 := Int.mul_neg_of_neg_of_pos hneg hp
      rw [decide_eq_true hneg, decide_eq_true h]
    · have h : ¬ T * ((2 ^ k : Nat) : Int) < 0 := by
        have := Int.mul_nonneg (a := T) (by omega) (Int.le_of_lt hp)
        omega
      rw [decide_eq_false hneg, decide_eq_false h]

theorem add_fin {x y : Nat} (hx : isF x) (hy : isF y) : fadd x y = roundU (sgn x && sgn y) (uv x + uv y) := by
  obtain ⟨m, a, h1, h2⟩ := read_fin hx
  obtain ⟨n, b, h3, h4⟩ := read_fin hy
  unfold fadd Format.add
  rw [h1, h3, sum_round, uv, uv, ← h2, ← h4]
  rfl

theorem sub_fin {x y : Nat} (hx : isF x) (hy : isF y) : fsub x y = roundU (sgn x && !sgn y) (uv x - uv y) := by
  obtain ⟨m, a, h1, h2⟩ := read_fin hx
  obtain ⟨n, b, h3, h4⟩ := read_fin hy
  unfold fsub Format.sub
  rw [h1, h3]
  show ((Datum.sum _ (.number (!sgn y) n _)).map double.write).getD nanc = _
  rw [sum_round, uv, uv, ← h2, ← h4]
  show roundU _ _ = _
  congr 1
  cases sgn y <;> simp [Int.sub_eq_add_neg]

/-- A rung's own number is written as that rung. -/
theorem nearest_units (s : Bool) {r : Nat} (h : r < 9218868437227405312) : double.nearest s (unitsOf r) (-1074) = double.word s r := by
  unfold unitsOf
  by_cases h1 : r < 4503599627370496
  · rw [if_pos h1]
    unfold Format.nearest
    by_cases h0 : r = 0
    · rw [if_pos h0, h0]
    · rw [if_neg h0]
      dsimp only
      have hl : r.log2 < 52 := (Nat.log2_lt h0).2 (by omega)
      have hlast : max (-1074 + (r.log2 : Int) - double.fractionBits) double.leastPlace = -1074 := by
        rw [lp_eq, show double.fractionBits = 52 from rfl]; omega
      rw [hlast, lp_eq, binade_eq, infRung_eq]
      rw [show ((-1074 : Int) - -1074).toNat = 0 by decide, Nat.shiftLeft_zero, cut_zero]
      congr 1
      omega
  · rw [if_neg h1]
    obtain ⟨e, he⟩ : ∃ e, r / 4503599627370496 = e + 1 := ⟨r / 4503599627370496 - 1, by omega⟩
    have hr : r = (e + 1) * 4503599627370496 + r % 4503599627370496 := by omega
    generalize r % 4503599627370496 = f at hr
    have hf : f < 4503599627370496 := by omega
    rw [he, Nat.add_sub_cancel, ← Nat.shiftLeft_eq, nearest_scale]
    unfold Format.nearest
    rw [if_neg (by omega)]
    dsimp only
    have hl : (4503599627370496 + f).log2 = 52 := by
      have h5 : 52 ≤ (4503599627370496 + f).log2 := (Nat.le_log2 (by omega)).2 (by omega)
      have h6 : (4503599627370496 + f).log2 < 53 := (Nat.log2_lt (by omega)).2 (by omega)
      omega
    have hlast : max (-1074 + (e : Int) + ((4503599627370496 + f).log2 : Int) - double.fractionBits) double.leastPlace = -1074 + (e : Int) := by
      rw [lp_eq, hl, show double.fractionBits = 52 from rfl]; omega
    rw [hlast, lp_eq, binade_eq, infRung_eq]
    rw [show ((-1074 + (e : Int)) - (-1074 + (e : Int))).toNat = 0 by omega, Nat.shiftLeft_zero, cut_zero, show ((-1074 + (e : Int)) - -1074).toNat = e by omega]
    congr 1
    omega

theorem word_eq (s : Bool) (r : Nat) : double.word s r = if s then 9223372036854775808 + r else r := by unfold Format.word; rw [sw_eq]
theorem sgn_word (s : Bool) {r : Nat} (h : r < 9223372036854775808) : sgn (double.word s r) = s := by
  rw [word_eq]; unfold sgn
  cases s
  · rw [if_neg (by simp), Nat.div_eq_of_lt h]; rfl
  · rw [if_pos rfl, show (9223372036854775808 + r) / 9223372036854775808 = 1 by omega]; rfl
theorem rung_word (s : Bool) {r : Nat} (h : r < 9223372036854775808) : rung (double.word s r) = r := by
  rw [word_eq]; unfold rung
  cases s <;> simp <;> omega
theorem isF_word (s : Bool) {r : Nat} (h : r < 9218868437227405312) : isF (double.word s r) := by
  unfold isF; rw [rung_word s (by omega)]; exact h
theorem uv_word (s : Bool) {r : Nat} (h : r < 9218868437227405312) : uv (double.word s r) = if s then -(unitsOf r : Int) else unitsOf r := by
  unfold uv; rw [sgn_word s (by omega), rung_word s (by omega)]

theorem below_top {E m k d : Nat} (hd : d ≤ E) (h1 : 2 ^ d ≤ m) (h4 : m * 2 ^ k < 2 ^ E) : k + d < E := by
  by_cases hk : k + d < E
  · exact hk
  · exfalso
    have h5 : 2 ^ d * 2 ^ (E - d) ≤ m * 2 ^ k := Nat.mul_le_mul h1 (Nat.pow_le_pow_right (by omega) (by omega))
    rw [← Nat.pow_add, Nat.add_sub_cancel' hd] at h5
    omega

/-- Which numbers of units a rung has: up to 53 digits that count, below 2 to the power 2098. -/
theorem rung_of {E : Nat} (hE : E = 2098) (m k : Nat) (hm : m ≤ 9007199254740992) (hk : m * 2 ^ k < 2 ^ E) : ∃ r, r < 9218868437227405312 ∧ unitsOf r = m * 2 ^ k := by
  by_cases h0 : m = 0
  · exact ⟨0, by omega, by subst h0; simp [unitsOf]⟩
  -- written with 53 digits, or with none below the least unit
  have key : ∀ (j : Nat) (m k : Nat), 4503599627370496 ≤ m * 2 ^ j → m ≤ 9007199254740992 → 0 < m → m * 2 ^ k < 2 ^ E → ∃ r, r < 9218868437227405312 ∧ unitsOf r = m * 2 ^ k := by
    intro j
    induction j with
    | zero =>
      intro m k h1 h2 h3 h4
      rw [Nat.pow_zero, Nat.mul_one] at h1
      have hk := below_top (d := 52) (by omega) (by omega) h4
      by_cases hm : m = 9007199254740992
      · subst hm
        have hk' := below_top (d := 53) (by omega) (by omega) h4
        refine ⟨(k + 2) * 4503599627370496, by omega, ?_⟩
        unfold unitsOf
        rw [if_neg (by omega), show (k + 2) * 4503599627370496 % 4503599627370496 = 0 by omega, show (k + 2) * 4503599627370496 / 4503599627370496 - 1 = k + 1 by omega, Nat.pow_succ]
        omega
      · refine ⟨(k + 1) * 4503599627370496 + (m - 4503599627370496), by omega, ?_⟩
        unfold unitsOf
        rw [if_neg (by omega), show ((k + 1) * 4503599627370496 + (m - 4503599627370496)) % 4503599627370496 = m - 4503599627370496 by omega, show ((k + 1) * 4503599627370496 + (m - 4503599627370496)) / 4503599627370496 - 1 = k by omega, show 4503599627370496 + (m - 4503599627370496) = m by omega]
    | succ j ih =>
      intro m k h1 h2 h3 h4
      by_cases hs : 4503599627370496 ≤ m
      · exact ih m k (Nat.le_trans hs (Nat.le_mul_of_pos_right _ (Nat.two_pow_pos j))) h2 h3 h4
      · cases k with
        | zero => exact ⟨m, by omega, by unfold unitsOf; rw [if_pos (by omega)]; simp⟩
        | succ k =>
          have e : m * 2 ^ (k + 1) = (2 * m) * 2 ^ k := by rw [Nat.pow_succ]; rw [Nat.mul_comm 2 m, Nat.mul_assoc, Nat.mul_comm 2]
          rw [e] at h4 ⊢
          refine ih (2 * m) k ?_ (by omega) (by omega) h4
          have e2 : 2 * m * 2 ^ j = m * 2 ^ (j + 1) := by rw [Nat.pow_succ, Nat.mul_comm 2 m, Nat.mul_assoc, Nat.mul_comm 2]
          rw [e2]; exact h1
  exact key 52 m k (by have : (1 : Nat) * 4503599627370496 ≤ m * 2 ^ 52 := Nat.mul_le_mul (by omega) (by decide); omega) hm (by omega) hk

end Go.Fl
