/- Floats as whole numbers of least units (2 to the power -1074): reading, sums, exact results. Whole numbers as floats: sums and differences of those up to 2 to the power 53 are exact. The order of floats that sorts: NaN first, then by size; sorted lists. Floats made whole: floor, and the integer towards nought. Rounding: how far the nearest word lies from a number, and that it keeps the order. Numbers are whole numbers over a power of two of least units. Floats as rational numbers: the operations round the exact answer. Numbers between two numbers; conversion of such to integers. The operations on finite floats round the exact rational answer. Where the rank of a quantile lies; quantiles of classes. -/
import Derived.Test.YtmmfjknnbkcniaaGreatDoorV01
import Derived.Sort.Statements
import Derived.Shelf.SlSortCmp.Insertion
import Derived.Laws.FloatArith
set_option maxHeartbeats 64000000
set_option maxRecDepth 100000
namespace Go.Fl
open Ieee
theorem log2_shl (n k : Nat) (hn : n ≠ 0) : (n <<< k).log2 = n.log2 + k := by
 induction k with
 | zero => simp
 | succ k ih =>
  have h : n <<< k ≠ 0 := by
   rw [Nat.shiftLeft_eq]
   exact Nat.mul_ne_zero hn (Nat.ne_of_gt (Nat.two_pow_pos k))
  rw [Nat.shiftLeft_succ, Nat.log2_two_mul h, ih]
  omega
theorem cut_zero (s : Bool) (n : Nat) : Toward.even.cut s n 0 = n := by
 simp [Toward.cut, Nat.mod_one]
theorem cut_scale (s : Bool) (n k d : Nat) (hn : n ≠ 0) : Toward.even.cut s (n <<< k) (d + k) = Toward.even.cut s n d := by
 unfold Toward.cut
 have hmin : min (d + k) ((n <<< k).log2 + 2) = min d (n.log2 + 2) + k := by rw [log2_shl n k hn]; omega
 have hg : (1 : Nat) <<< (min d (n.log2 + 2) + k) = 1 <<< min d (n.log2 + 2) * 2 ^ k := by
  rw [Nat.shiftLeft_eq, Nat.shiftLeft_eq, Nat.pow_add, Nat.mul_assoc]
 have hp := Nat.two_pow_pos k
 simp only [hmin, hg]
 generalize 1 <<< min d (n.log2 + 2) = g
 rw [Nat.shiftLeft_eq, Nat.mul_div_mul_right _ _ hp, Nat.mul_mod_mul_right]
 have h1 : (decide (g * 2 ^ k < 2 * (n % g * 2 ^ k))) = decide (g < 2 * (n % g)) := by
  rw [← Nat.mul_assoc]
  exact decide_eq_decide.2 (Nat.mul_lt_mul_right hp)
 have h2 : (g * 2 ^ k == 2 * (n % g * 2 ^ k)) = (g == 2 * (n % g)) := by
  rw [← Nat.mul_assoc, Bool.eq_iff_iff, beq_iff_eq, beq_iff_eq]
  exact Nat.mul_right_cancel_iff hp
 rw [h1, h2]
theorem cut_shl (s : Bool) (n k d : Nat) (hn : n ≠ 0) (h : d ≤ k) : Toward.even.cut s (n <<< k) d = n <<< (k - d) := by
 have h2 := cut_scale s (n <<< (k - d)) d 0 (by rw [Nat.shiftLeft_eq]; exact Nat.mul_ne_zero hn (Nat.ne_of_gt (Nat.two_pow_pos _)))
 rw [cut_zero, ← Nat.shiftLeft_add, Nat.zero_add, Nat.sub_add_cancel h] at h2
 exact h2
theorem nearest_scale (s : Bool) (m k : Nat) (p : Int) : double.nearest s (m <<< k) p = double.nearest s m (p + k) := by
 unfold Format.nearest
 by_cases hm : m = 0
 ·subst hm; simp
 ·have hm' : m <<< k ≠ 0 := by
   rw [Nat.shiftLeft_eq]
   exact Nat.mul_ne_zero hm (Nat.ne_of_gt (Nat.two_pow_pos k))
  rw [if_neg hm, if_neg hm']
  dsimp only
  have hlast : max (p + ((m <<< k).log2 : Int) - double.fractionBits) double.leastPlace = max (p + k + (m.log2 : Int) - double.fractionBits) double.leastPlace := by
   rw [log2_shl m k hm]; congr 1; omega
  rw [hlast]
  generalize max (p + k + (m.log2 : Int) - double.fractionBits) double.leastPlace = last
  have hk : Toward.even.cut s (m <<< k <<< (p - last).toNat) (last - p).toNat = Toward.even.cut s (m <<< (p + k - last).toNat) (last - (p + k)).toNat := by
   by_cases h1 : p + k ≤ last
   ·rw [show (p - last).toNat = 0 by omega, show (p + k - last).toNat = 0 by omega, Nat.shiftLeft_zero, Nat.shiftLeft_zero, show (last - p).toNat = (last - (p + k)).toNat + k by omega, cut_scale s m k _ hm]
   ·rw [show (last - (p + k)).toNat = 0 by omega, cut_zero]
    by_cases h2 : last ≤ p
    ·rw [show (last - p).toNat = 0 by omega, cut_zero, ← Nat.shiftLeft_add, show k + (p - last).toNat = (p + k - last).toNat by omega]
    ·rw [show (p - last).toNat = 0 by omega, Nat.shiftLeft_zero, cut_shl s m k _ hm (by omega), show k - (last - p).toNat = (p + k - last).toNat by omega]
  rw [hk]
theorem lp_eq : double.leastPlace = -1074 := by decide +kernel
theorem binade_eq : double.binade = 4503599627370496 := by decide +kernel
theorem infRung_eq : double.infRung = 9218868437227405312 := by decide +kernel
theorem sw_eq : double.signWeight = 9223372036854775808 := by decide +kernel
def unitsOf (r : Nat) : Nat := if r < 4503599627370496 then r else (4503599627370496 + r % 4503599627370496) * 2 ^ (r / 4503599627370496 - 1)
def sgn (x : Nat) : Bool := x / 9223372036854775808 % 2 == 1
def rung (x : Nat) : Nat := x % 9223372036854775808
def isF (x : Nat) : Prop := rung x < 9218868437227405312
def uv (x : Nat) : Int := if sgn x then -(unitsOf (rung x) : Int) else unitsOf (rung x)
theorem read_fin {x : Nat} (h : isF x) : ∃ m j : Nat, double.read x = .number (sgn x) m (-1074 + (j : Int)) ∧ m * 2 ^ j = unitsOf (rung x) := by
 unfold isF rung at h
 unfold Format.read sgn
 dsimp only
 rw [sw_eq, binade_eq, infRung_eq, lp_eq]
 unfold unitsOf rung
 by_cases h1 : x % 9223372036854775808 < 4503599627370496
 ·rw [if_pos h1, if_pos h1]
  exact ⟨_, 0, rfl, by simp⟩
 ·rw [if_neg h1, if_neg h1, if_pos h]
  exact ⟨_, _, rfl, rfl⟩
theorem signed_mul (s : Bool) (m a b : Nat) (h : b ≤ a) : signed s m (a - b) * (2 ^ b : Nat) = if s then -((m * 2 ^ a : Nat) : Int) else ((m * 2 ^ a : Nat) : Int) := by
 have h2 : m <<< (a - b) * 2 ^ b = m * 2 ^ a := by
  rw [Nat.shiftLeft_eq, Nat.mul_assoc, ← Nat.pow_add, Nat.sub_add_cancel h]
 unfold signed
 cases s
 ·rw [if_neg (by simp), if_neg (by simp), ← Int.natCast_mul, h2]
 ·rw [if_pos rfl, if_pos rfl, Int.neg_mul, ← Int.natCast_mul, h2]
def roundU (z : Bool) (n : Int) : Nat := double.nearest (if n = 0 then z else decide (n < 0)) n.natAbs (-1074)
theorem sum_round (s t : Bool) (m n a b : Nat) : (Datum.sum (.number s m (-1074 + (a : Int))) (.number t n (-1074 + (b : Int)))).map double.write = some (roundU (s && t) ((if s then -((m * 2 ^ a : Nat) : Int) else ((m * 2 ^ a : Nat) : Int)) + (if t then -((n * 2 ^ b : Nat) : Int) else ((n * 2 ^ b : Nat) : Int)))) := by
 unfold Datum.sum
 dsimp only
 have hb : min (-1074 + (a : Int)) (-1074 + (b : Int)) = -1074 + (min a b : Nat) := by omega
 have ha1 : (-1074 + (a : Int) - (-1074 + ((min a b : Nat) : Int))).toNat = a - min a b := by omega
 have hb1 : (-1074 + (b : Int) - (-1074 + ((min a b : Nat) : Int))).toNat = b - min a b := by omega
 rw [hb, ha1, hb1, ← signed_mul s m a (min a b) (by omega), ← signed_mul t n b (min a b) (by omega), ← Int.add_mul]
 generalize signed s m (a - min a b) + signed t n (b - min a b) = T
 generalize min a b = k
 have hp : (0 : Int) < ((2 ^ k : Nat) : Int) := by exact_mod_cast Nat.two_pow_pos k
 unfold roundU
 simp only [Option.map_some, Option.some.injEq]
 show double.nearest _ _ _ = _
 have hn : (T * ((2 ^ k : Nat) : Int)).natAbs = T.natAbs <<< k := by
  rw [Int.natAbs_mul, Int.natAbs_natCast, Nat.shiftLeft_eq]
 rw [hn, nearest_scale]
 congr 1
 by_cases h0 : T = 0
 ·subst h0; simp
 ·rw [if_neg h0, if_neg (by intro h; rcases Int.mul_eq_zero.1 h with h | h <;> omega)]
  by_cases hneg : T < 0
  ·have h : T * ((2 ^ k : Nat) : Int) < 0 := Int.mul_neg_of_neg_of_pos hneg hp
   rw [decide_eq_true hneg, decide_eq_true h]
  ·have h : ¬ T * ((2 ^ k : Nat) : Int) < 0 := by
    have := Int.mul_nonneg (a := T) (by omega) (Int.le_of_lt hp)
    omega
   rw [decide_eq_false hneg, decide_eq_false h]
theorem add_fin {x y : Nat} (hx : isF x) (hy : isF y) : fadd x y = roundU (sgn x && sgn y) (uv x + uv y) := by
 obtain ⟨m, a, h1, h2⟩ := read_fin hx
 obtain ⟨n, b, h3, h4⟩ := read_fin hy
 unfold fadd Format.add
 rw [h1, h3, sum_round, uv, uv, ← h2, ← h4]
 rfl
theorem sub_fin {x y : Nat} (hx : isF x) (hy : isF y) : fsub x y = roundU (sgn x && !sgn y) (uv x - uv y) := by
 obtain ⟨m, a, h1, h2⟩ := read_fin hx
 obtain ⟨n, b, h3, h4⟩ := read_fin hy
 unfold fsub Format.sub
 rw [h1, h3]
 show ((Datum.sum _ (.number (!sgn y) n _)).map double.write).getD nanc = _
 rw [sum_round, uv, uv, ← h2, ← h4]
 show roundU _ _ = _
 congr 1
 cases sgn y <;> simp [Int.sub_eq_add_neg]
theorem nearest_units (s : Bool) {r : Nat} (h : r < 9218868437227405312) : double.nearest s (unitsOf r) (-1074) = double.word s r := by
 unfold unitsOf
 by_cases h1 : r < 4503599627370496
 ·rw [if_pos h1]
  unfold Format.nearest
  by_cases h0 : r = 0
  ·rw [if_pos h0, h0]
  ·rw [if_neg h0]
   dsimp only
   have hl : r.log2 < 52 := (Nat.log2_lt h0).2 (by omega)
   have hlast : max (-1074 + (r.log2 : Int) - double.fractionBits) double.leastPlace = -1074 := by
    rw [lp_eq, show double.fractionBits = 52 from rfl]; omega
   rw [hlast, lp_eq, binade_eq, infRung_eq]
   rw [show ((-1074 : Int) - -1074).toNat = 0 by decide, Nat.shiftLeft_zero, cut_zero]
   congr 1
   omega
 ·rw [if_neg h1]
  obtain ⟨e, he⟩ : ∃ e, r / 4503599627370496 = e + 1 := ⟨r / 4503599627370496 - 1, by omega⟩
  have hr : r = (e + 1) * 4503599627370496 + r % 4503599627370496 := by omega
  generalize r % 4503599627370496 = f at hr
  have hf : f < 4503599627370496 := by omega
  rw [he, Nat.add_sub_cancel, ← Nat.shiftLeft_eq, nearest_scale]
  unfold Format.nearest
  rw [if_neg (by omega)]
  dsimp only
  have hl : (4503599627370496 + f).log2 = 52 := by
   have h5 : 52 ≤ (4503599627370496 + f).log2 := (Nat.le_log2 (by omega)).2 (by omega)
   have h6 : (4503599627370496 + f).log2 < 53 := (Nat.log2_lt (by omega)).2 (by omega)
   omega
  have hlast : max (-1074 + (e : Int) + ((4503599627370496 + f).log2 : Int) - double.fractionBits) double.leastPlace = -1074 + (e : Int) := by
   rw [lp_eq, hl, show double.fractionBits = 52 from rfl]; omega
  rw [hlast, lp_eq, binade_eq, infRung_eq]
  rw [show ((-1074 + (e : Int)) - (-1074 + (e : Int))).toNat = 0 by omega, Nat.shiftLeft_zero, cut_zero, show ((-1074 + (e : Int)) - -1074).toNat = e by omega]
  congr 1
  omega
theorem word_eq (s : Bool) (r : Nat) : double.word s r = if s then 9223372036854775808 + r else r := by unfold Format.word; rw [sw_eq]
theorem sgn_word (s : Bool) {r : Nat} (h : r < 9223372036854775808) : sgn (double.word s r) = s := by
 rw [word_eq]; unfold sgn
 cases s
 ·rw [if_neg (by simp), Nat.div_eq_of_lt h]; rfl
 ·rw [if_pos rfl, show (9223372036854775808 + r) / 9223372036854775808 = 1 by omega]; rfl
theorem rung_word (s : Bool) {r : Nat} (h : r < 9223372036854775808) : rung (double.word s r) = r := by
 rw [word_eq]; unfold rung
 cases s <;> simp <;> omega
theorem isF_word (s : Bool) {r : Nat} (h : r < 9218868437227405312) : isF (double.word s r) := by
 unfold isF; rw [rung_word s (by omega)]; exact h
theorem uv_word (s : Bool) {r : Nat} (h : r < 9218868437227405312) : uv (double.word s r) = if s then -(unitsOf r : Int) else unitsOf r := by
 unfold uv; rw [sgn_word s (by omega), rung_word s (by omega)]
theorem below_top {E m k d : Nat} (hd : d ≤ E) (h1 : 2 ^ d ≤ m) (h4 : m * 2 ^ k < 2 ^ E) : k + d < E := by
 by_cases hk : k + d < E
 ·exact hk
 ·exfalso
  have h5 : 2 ^ d * 2 ^ (E - d) ≤ m * 2 ^ k := Nat.mul_le_mul h1 (Nat.pow_le_pow_right (by omega) (by omega))
  rw [← Nat.pow_add, Nat.add_sub_cancel' hd] at h5
  omega
theorem rung_of {E : Nat} (hE : E = 2098) (m k : Nat) (hm : m ≤ 9007199254740992) (hk : m * 2 ^ k < 2 ^ E) : ∃ r, r < 9218868437227405312 ∧ unitsOf r = m * 2 ^ k := by
 by_cases h0 : m = 0
 ·exact ⟨0, by omega, by subst h0; simp [unitsOf]⟩
 -- written with 53 digits, or with none below the least unit
 have key : ∀ (j : Nat) (m k : Nat), 4503599627370496 ≤ m * 2 ^ j → m ≤ 9007199254740992 → 0 < m → m * 2 ^ k < 2 ^ E → ∃ r, r < 9218868437227405312 ∧ unitsOf r = m * 2 ^ k := by
  intro j
  induction j with
  | zero =>
   intro m k h1 h2 h3 h4
   rw [Nat.pow_zero, Nat.mul_one] at h1
   have hk := below_top (d := 52) (by omega) (by omega) h4
   by_cases hm : m = 9007199254740992
   ·subst hm
    have hk' := below_top (d := 53) (by omega) (by omega) h4
    refine ⟨(k + 2) * 4503599627370496, by omega, ?_⟩
    unfold unitsOf
    rw [if_neg (by omega), show (k + 2) * 4503599627370496 % 4503599627370496 = 0 by omega, show (k + 2) * 4503599627370496 / 4503599627370496 - 1 = k + 1 by omega, Nat.pow_succ]
    omega
   ·refine ⟨(k + 1) * 4503599627370496 + (m - 4503599627370496), by omega, ?_⟩
    unfold unitsOf
    rw [if_neg (by omega), show ((k + 1) * 4503599627370496 + (m - 4503599627370496)) % 4503599627370496 = m - 4503599627370496 by omega, show ((k + 1) * 4503599627370496 + (m - 4503599627370496)) / 4503599627370496 - 1 = k by omega, show 4503599627370496 + (m - 4503599627370496) = m by omega]
  | succ j ih =>
   intro m k h1 h2 h3 h4
   by_cases hs : 4503599627370496 ≤ m
   ·exact ih m k (Nat.le_trans hs (Nat.le_mul_of_pos_right _ (Nat.two_pow_pos j))) h2 h3 h4
   ·cases k with
    | zero => exact ⟨m, by omega, by unfold unitsOf; rw [if_pos (by omega)]; simp⟩
    | succ k =>
     have e : m * 2 ^ (k + 1) = (2 * m) * 2 ^ k := by rw [Nat.pow_succ]; rw [Nat.mul_comm 2 m, Nat.mul_assoc, Nat.mul_comm 2]
     rw [e] at h4 ⊢
     refine ih (2 * m) k ?_ (by omega) (by omega) h4
     have e2 : 2 * m * 2 ^ j = m * 2 ^ (j + 1) := by rw [Nat.pow_succ, Nat.mul_comm 2 m, Nat.mul_assoc, Nat.mul_comm 2]
     rw [e2]; exact h1
 exact key 52 m k (by have : (1 : Nat) * 4503599627370496 ≤ m * 2 ^ 52 := Nat.mul_le_mul (by omega) (by decide); omega) hm (by omega) hk
end Go.Fl
namespace Go.Fl
open Ieee
theorem unitsOf_succ (r : Nat) : unitsOf r < unitsOf (r + 1) := by
 unfold unitsOf
 by_cases h1 : r + 1 < 4503599627370496
 ·rw [if_pos (by omega), if_pos h1]; omega
 ·rw [if_neg h1]
  by_cases h2 : r < 4503599627370496
  ·have : r = 4503599627370495 := by omega
   subst this
   decide +kernel
  ·rw [if_neg h2]
   obtain ⟨e, f, hr, hf⟩ : ∃ e f, r = (e + 1) * 4503599627370496 + f ∧ f < 4503599627370496 := ⟨r / 4503599627370496 - 1, r % 4503599627370496, by omega, by omega⟩
   subst hr
   by_cases h3 : f + 1 < 4503599627370496
   ·rw [show ((e + 1) * 4503599627370496 + f) % 4503599627370496 = f by omega, show ((e + 1) * 4503599627370496 + f) / 4503599627370496 - 1 = e by omega, show ((e + 1) * 4503599627370496 + f + 1) % 4503599627370496 = f + 1 by omega, show ((e + 1) * 4503599627370496 + f + 1) / 4503599627370496 - 1 = e by omega]
    exact (Nat.mul_lt_mul_right (Nat.two_pow_pos e)).2 (by omega)
   ·rw [show ((e + 1) * 4503599627370496 + f) % 4503599627370496 = f by omega, show ((e + 1) * 4503599627370496 + f) / 4503599627370496 - 1 = e by omega, show ((e + 1) * 4503599627370496 + f + 1) % 4503599627370496 = 0 by omega, show ((e + 1) * 4503599627370496 + f + 1) / 4503599627370496 - 1 = e + 1 by omega]
    rw [Nat.pow_succ, Nat.mul_comm (2 ^ e) 2, ← Nat.mul_assoc]
    exact (Nat.mul_lt_mul_right (Nat.two_pow_pos e)).2 (by omega)
theorem unitsOf_lt {r s : Nat} (h : r < s) : unitsOf r < unitsOf s := by
 induction s with
 | zero => omega
 | succ s ih =>
  by_cases hs : r = s
  ·subst hs; exact unitsOf_succ r
  ·exact Nat.lt_trans (ih (by omega)) (unitsOf_succ s)
theorem unitsOf_le {r s : Nat} (h : r ≤ s) : unitsOf r ≤ unitsOf s := by
 by_cases hs : r = s
 ·subst hs; exact Nat.le_refl _
 ·exact Nat.le_of_lt (unitsOf_lt (by omega))
theorem unitsOf_inj {r s : Nat} (h : unitsOf r = unitsOf s) : r = s := by
 by_cases h1 : r < s
 ·have := unitsOf_lt h1; omega
 ·by_cases h2 : s < r
  ·have := unitsOf_lt h2; omega
  ·omega
theorem compare_mul (a b k : Int) (hk : 0 < k) : compare (a * k) (b * k) = compare a b := by
 by_cases h1 : a < b
 ·have := Int.mul_lt_mul_of_pos_right h1 hk
  rw [Std.compare_eq_lt.2 h1, Std.compare_eq_lt.2 this]
 ·by_cases h2 : a = b
  ·subst h2; simp [Std.ReflCmp.compare_self]
  ·have h3 : b < a := by omega
   have := Int.mul_lt_mul_of_pos_right h3 hk
   rw [Std.compare_eq_gt.2 h3, Std.compare_eq_gt.2 this]
theorem order_fin {x y : Nat} (hx : isF x) (hy : isF y) : ford x y = some (compare (uv x) (uv y)) := by
 obtain ⟨m, a, h1, h2⟩ := read_fin hx
 obtain ⟨n, b, h3, h4⟩ := read_fin hy
 unfold ford Format.order
 rw [h1, h3]
 unfold Datum.order
 dsimp only
 have hb : min (-1074 + (a : Int)) (-1074 + (b : Int)) = -1074 + (min a b : Nat) := by omega
 have ha1 : (-1074 + (a : Int) - (-1074 + ((min a b : Nat) : Int))).toNat = a - min a b := by omega
 have hb1 : (-1074 + (b : Int) - (-1074 + ((min a b : Nat) : Int))).toNat = b - min a b := by omega
 rw [hb, ha1, hb1]
 have hp : (0 : Int) < ((2 ^ min a b : Nat) : Int) := by exact_mod_cast Nat.two_pow_pos _
 rw [← compare_mul _ _ _ hp, signed_mul _ m a (min a b) (by omega), signed_mul _ n b (min a b) (by omega), uv, uv, ← h2, ← h4]
theorem isF_notN {x : Nat} (h : isF x) : isN x = false := by
 obtain ⟨m, a, h1, _⟩ := read_fin h
 unfold isN; rw [h1]; rfl
def K : Nat := 1074
theorem K_eq : K = 1074 := rfl
def U : Nat := 2 ^ K
theorem U_pos : 0 < U := Nat.two_pow_pos _
theorem U_eq : U = 2 ^ K := rfl
theorem pow_bound {m a b E : Nat} (h : m ≤ 2 ^ a) (hE : a + b < E) : m * 2 ^ b < 2 ^ E := by
 have h1 : m * 2 ^ b ≤ 2 ^ a * 2 ^ b := Nat.mul_le_mul_right _ h
 rw [← Nat.pow_add] at h1
 exact Nat.lt_of_le_of_lt h1 (Nat.pow_lt_pow_right (by omega) hE)
theorem rung_of53 (m k : Nat) (hm : m ≤ 9007199254740992) (hk : k < 2045) : ∃ r, r < 9218868437227405312 ∧ unitsOf r = m * 2 ^ k := by
 obtain ⟨E, hE⟩ : ∃ E, E = 2098 := ⟨_, rfl⟩
 exact rung_of hE m k hm (pow_bound (a := 53) (by omega) (by omega))
def wz (z : Int) : Nat := double.nearest (decide (z < 0)) z.natAbs 0
theorem wz_eq (z : Int) : floatOfInt .f64 z = wz z := rfl
theorem wz_read {z : Int} (h : z.natAbs ≤ 9007199254740992) : isF (wz z) ∧ uv (wz z) = z * (U : Int) ∧ sgn (wz z) = decide (z < 0) := by
 obtain ⟨r, hr, hu⟩ := rung_of53 z.natAbs K h (by rw [K_eq]; omega)
 have hw : wz z = double.word (decide (z < 0)) r := by
  rw [← nearest_units _ hr, hu, ← Nat.shiftLeft_eq, nearest_scale, K_eq]
  rfl
 rw [hw]
 refine ⟨isF_word _ hr, ?_, sgn_word _ (by omega)⟩
 rw [uv_word _ hr, hu, ← U_eq]
 generalize U = k
 by_cases hz : z < 0
 ·rw [if_pos (by simp [hz]), show z = -(z.natAbs : Int) by omega]
  simp [Int.neg_mul]
 ·rw [if_neg (by simp [hz])]
  obtain ⟨n, rfl⟩ := Int.eq_ofNat_of_zero_le (by omega : 0 ≤ z)
  simp
theorem cn_wz {z : Int} (h : z.natAbs ≤ 9007199254740992) : cn (wz z) = wz z := cn_of_notN (isF_notN (wz_read h).1)
end Go.Fl
namespace Go.Fl
open Ieee Go.Sort Go.Proofs
def pl (x : Nat) : Int := if isN x then -9223372036854775808 else if sgn x then -(rung x : Int) else rung x
theorem isN_iff (x : Nat) : isN x = decide (9218868437227405312 < rung x) := by
 unfold isN Format.read rung
 rw [sw_eq, binade_eq, infRung_eq]
 dsimp only
 split
 ·simp only [Datum.isNaN]; symm; apply decide_eq_false; omega
 ·split
  ·simp only [Datum.isNaN]; symm; apply decide_eq_false; omega
  ·split
   ·simp only [Datum.isNaN]; symm; apply decide_eq_false; omega
   ·simp only [Datum.isNaN]; symm; apply decide_eq_true; omega
theorem read_inf {x : Nat} (h : rung x = 9218868437227405312) : double.read x = .infinity (sgn x) := by
 unfold Format.read
 unfold rung at h
 rw [sw_eq, binade_eq, infRung_eq]
 dsimp only
 rw [if_neg (by omega), if_neg (by omega), if_pos h]
 rfl
theorem pl_fin {x : Nat} (h : isF x) : pl x = if sgn x then -(rung x : Int) else rung x := by
 unfold pl; rw [isF_notN h]; rfl
theorem rung_lt_sw (x : Nat) : rung x < 9223372036854775808 := Nat.mod_lt _ (by decide)
theorem unitsOf_zero : unitsOf 0 = 0 := by decide
theorem unitsOf_lt_iff {r s : Nat} : unitsOf r < unitsOf s ↔ r < s :=
 ⟨fun h => Nat.lt_of_not_le fun h' => by have := unitsOf_le h'; omega, unitsOf_lt⟩
theorem unitsOf_pos {r : Nat} : 0 < unitsOf r ↔ 0 < r := by
 have := unitsOf_lt_iff (r := 0) (s := r); rw [unitsOf_zero] at this; exact this
theorem uv_lt_iff {x y : Nat} (hx : isF x) (hy : isF y) : uv x < uv y ↔ pl x < pl y := by
 rw [pl_fin hx, pl_fin hy]
 unfold uv
 have h1 := unitsOf_lt_iff (r := rung x) (s := rung y)
 have h2 := unitsOf_lt_iff (r := rung y) (s := rung x)
 have h3 := unitsOf_pos (r := rung x)
 have h4 := unitsOf_pos (r := rung y)
 cases sgn x <;> cases sgn y <;> simp only [Bool.false_eq_true, if_false, if_true] <;> omega
theorem compare_of_lt {a b c d : Int} (h1 : a < b ↔ c < d) (h2 : b < a ↔ d < c) : compare a b = compare c d := by
 rcases Int.lt_trichotomy a b with h | h | h
 ·rw [Std.compare_eq_lt.2 h, Std.compare_eq_lt.2 (h1.1 h)]
 ·have hcd : c = d := by
   rcases Int.lt_trichotomy c d with g | g | g
   ·have := h1.2 g; omega
   ·exact g
   ·have := h2.2 g; omega
  rw [h, hcd]
  have key : ∀ z : Int, compare z z = .eq := fun z => Std.ReflCmp.compare_self
  rw [key, key]
 ·rw [Std.compare_eq_gt.2 h, Std.compare_eq_gt.2 (h2.1 h)]
theorem ford_pl {x y : Nat} (hx : isN x = false) (hy : isN y = false) : ford x y = some (compare (pl x) (pl y)) := by
 by_cases fx : isF x
 ·by_cases fy : isF y
  ·rw [order_fin fx fy]
   exact congrArg some (compare_of_lt (uv_lt_iff fx fy) (uv_lt_iff fy fx))
  ·have hr : rung y = 9218868437227405312 := by
    rw [isN_iff] at hy; have := of_decide_eq_false hy; unfold isF at fy; omega
   obtain ⟨m, j, hm, _⟩ := read_fin fx
   unfold ford Format.order
   rw [hm, read_inf hr]
   have e : pl y = if sgn y then -9218868437227405312 else 9218868437227405312 := by unfold pl; rw [hy, hr]; rfl
   have hb : -9218868437227405312 < pl x ∧ pl x < 9218868437227405312 := by
    rw [pl_fin fx]; unfold isF at fx; split <;> omega
   rw [e]
   show some (if sgn y then Ordering.gt else Ordering.lt) = _
   cases sgn y
   ·rw [if_neg (by simp), if_neg (by simp), Std.compare_eq_lt.2 hb.2]
   ·rw [if_pos rfl, if_pos rfl, Std.compare_eq_gt.2 hb.1]
 ·have hr : rung x = 9218868437227405312 := by
   rw [isN_iff] at hx; have := of_decide_eq_false hx; unfold isF at fx; omega
  have e : pl x = if sgn x then -9218868437227405312 else 9218868437227405312 := by unfold pl; rw [hx, hr]; rfl
  by_cases fy : isF y
  ·obtain ⟨m, j, hm, _⟩ := read_fin fy
   unfold ford Format.order
   rw [hm, read_inf hr]
   have hb : -9218868437227405312 < pl y ∧ pl y < 9218868437227405312 := by
    rw [pl_fin fy]; unfold isF at fy; split <;> omega
   rw [e]
   show some (if sgn x then Ordering.lt else Ordering.gt) = _
   cases sgn x
   ·rw [if_neg (by simp), if_neg (by simp), Std.compare_eq_gt.2 hb.2]
   ·rw [if_pos rfl, if_pos rfl, Std.compare_eq_lt.2 hb.1]
  ·have hr2 : rung y = 9218868437227405312 := by
    rw [isN_iff] at hy; have := of_decide_eq_false hy; unfold isF at fy; omega
   have e2 : pl y = if sgn y then -9218868437227405312 else 9218868437227405312 := by unfold pl; rw [hy, hr2]; rfl
   unfold ford Format.order
   rw [read_inf hr, read_inf hr2, e, e2]
   cases sgn x <;> cases sgn y <;> rfl
theorem pl_notN {x : Nat} (h : isN x = false) : -9218868437227405312 ≤ pl x ∧ pl x ≤ 9218868437227405312 := by
 rw [isN_iff] at h
 have h1 := of_decide_eq_false h
 have h2 : isN x = false := by rw [isN_iff]; exact decide_eq_false h1
 unfold pl; rw [h2]
 simp only [Bool.false_eq_true, if_false]
 split <;> omega
theorem sort_shift {α : Type} (le : α → α → Bool) (l : List α) (k : Nat) : ((l.zipIdx k).mergeSort (List.zipIdxLE le)).map (·.1) = l.mergeSort le := by
 rw [← List.mergeSort_zipIdx (l := l)]
 have e : l.zipIdx k = l.zipIdx.map fun x => (x.1, x.2 + k) := by
  apply List.ext_getElem?
  intro i
  rw [List.getElem?_map, List.getElem?_zipIdx, List.getElem?_zipIdx]
  cases l[i]? <;> simp
  omega
 rw [e, ← List.map_mergeSort (r := List.zipIdxLE le)]
 ·simp
 ·intro a _ b _
  simp [List.zipIdxLE]
theorem merge_sorts {α : Type} (le : α → α → Bool) (ht : ∀ a b c, le a b = true → le b c = true → le a c = true) (hto : ∀ a b, (le a b || le b a) = true) (a b : List α) :
  List.merge (a.mergeSort le) (b.mergeSort le) le = (a ++ b).mergeSort le := by
 rw [← List.mergeSort_zipIdx (l := a ++ b), ← List.mergeSort_zipIdx (l := a), ← sort_shift le b a.length, ← List.merge_stable]
 ·congr 1
  have t := List.zipIdxLE_trans ht
  have o := List.zipIdxLE_total hto
  have hp : (List.merge ((a.zipIdx 0).mergeSort (List.zipIdxLE le)) ((b.zipIdx a.length).mergeSort (List.zipIdxLE le)) (List.zipIdxLE le)).Perm ((a ++ b).zipIdx.mergeSort (List.zipIdxLE le)) := by
   refine (List.merge_perm_append _).trans ?_
   refine (List.Perm.append (List.mergeSort_perm _ _) (List.mergeSort_perm _ _)).trans ?_
   refine List.Perm.trans ?_ (List.mergeSort_perm _ _).symm
   rw [List.zipIdx_append]
   simp
  refine List.Perm.eq_of_pairwise (le := fun x y => List.zipIdxLE le x y = true) ?_ ?_ ?_ hp
  ·rintro ⟨x, i⟩ ⟨y, j⟩ hx hy h1 h2
   have hx' := (List.mergeSort_perm _ _).mem_iff.1 (hp.mem_iff.1 hx)
   have hy' := (List.mergeSort_perm _ _).mem_iff.1 hy
   have : i = j := by
    simp only [List.zipIdxLE] at h1 h2
    cases c1 : le x y <;> cases c2 : le y x <;> simp [c1, c2] at h1 h2
    omega
   subst this
   have e1 := List.mem_zipIdx hx'
   have e2 := List.mem_zipIdx hy'
   simp_all
  ·exact List.pairwise_merge t o _ _ (List.pairwise_mergeSort t o _) (List.pairwise_mergeSort t o _)
  ·exact List.pairwise_mergeSort t o _
 ·intro x y hx hy
  have h1 := (List.mergeSort_perm _ _).mem_iff.1 hx
  have h2 := (List.mergeSort_perm _ _).mem_iff.1 hy
  have := List.mem_zipIdx h1
  have := List.mem_zipIdx h2
  omega
end Go.Fl
namespace Go.Fl
open Ieee
theorem gap_eq (n d : Nat) : n / (1 <<< min d (n.log2 + 2)) = n / 2 ^ d ∧ n % (1 <<< min d (n.log2 + 2)) = n % 2 ^ d := by
 by_cases h : d ≤ n.log2 + 2
 ·rw [Nat.min_eq_left h, Nat.shiftLeft_eq, Nat.one_mul]
  exact ⟨rfl, rfl⟩
 ·rw [Nat.min_eq_right (by omega), Nat.shiftLeft_eq, Nat.one_mul]
  have h1 : n < 2 ^ (n.log2 + 1) := Nat.lt_log2_self
  have h2 : 2 ^ (n.log2 + 1) ≤ 2 ^ (n.log2 + 2) := Nat.pow_le_pow_right (by omega) (by omega)
  have h3 : 2 ^ (n.log2 + 1) ≤ 2 ^ d := Nat.pow_le_pow_right (by omega) (by omega)
  rw [Nat.div_eq_of_lt (by omega), Nat.div_eq_of_lt (by omega), Nat.mod_eq_of_lt (by omega), Nat.mod_eq_of_lt (by omega)]
  exact ⟨rfl, rfl⟩
theorem cut_zero_way (s : Bool) (n d : Nat) : Toward.zero.cut s n d = n / 2 ^ d := by
 unfold Toward.cut
 simp only [(gap_eq n d).1, Bool.toNat_false, Nat.add_zero]
theorem cut_down_way (s : Bool) (n d : Nat) : Toward.down.cut s n d = n / 2 ^ d + (s && n % 2 ^ d != 0).toNat := by
 unfold Toward.cut
 simp only [(gap_eq n d).1, (gap_eq n d).2]
theorem read_fin2 {x : Nat} (h : isF x) : ∃ m j : Nat, double.read x = .number (sgn x) m (-1074 + (j : Int)) ∧ m * 2 ^ j = unitsOf (rung x) ∧ m < 9007199254740992 := by
 unfold isF rung at h
 unfold Format.read sgn
 dsimp only
 rw [sw_eq, binade_eq, infRung_eq, lp_eq]
 unfold unitsOf rung
 by_cases h1 : x % 9223372036854775808 < 4503599627370496
 ·rw [if_pos h1, if_pos h1]
  exact ⟨_, 0, rfl, by simp, by omega⟩
 ·rw [if_neg h1, if_neg h1, if_pos h]
  exact ⟨_, _, rfl, rfl, by omega⟩
theorem units_div (m j : Nat) : m * 2 ^ j / U = (m <<< (-1074 + (j : Int)).toNat) / 2 ^ (-(-1074 + (j : Int))).toNat := by
 rw [U_eq]
 by_cases hj : 1074 ≤ j
 ·rw [show (-1074 + (j : Int)).toNat = j - 1074 by omega, show (-(-1074 + (j : Int))).toNat = 0 by omega, Nat.pow_zero, Nat.div_one, Nat.shiftLeft_eq]
  have : 2 ^ j = 2 ^ (j - 1074) * 2 ^ K := by rw [← Nat.pow_add]; congr 1; have := K_eq; omega
  rw [this, ← Nat.mul_assoc, Nat.mul_div_cancel _ (Nat.two_pow_pos _)]
 ·rw [show (-1074 + (j : Int)).toNat = 0 by omega, show (-(-1074 + (j : Int))).toNat = 1074 - j by omega, Nat.shiftLeft_zero]
  have : (2 : Nat) ^ K = 2 ^ (1074 - j) * 2 ^ j := by rw [← Nat.pow_add]; congr 1; have := K_eq; omega
  rw [this, Nat.mul_div_mul_right _ _ (Nat.two_pow_pos _)]
theorem units_mod (m j : Nat) (hj : j ≤ 1074) : m * 2 ^ j % U = (m % 2 ^ (1074 - j)) * 2 ^ j := by
 rw [U_eq]
 have : (2 : Nat) ^ K = 2 ^ (1074 - j) * 2 ^ j := by rw [← Nat.pow_add]; congr 1; have := K_eq; omega
 rw [this, Nat.mul_mod_mul_right]
theorem zero_place : (-1074 : Int) + ((1074 : Nat) : Int) = 0 := by decide
theorem toInt_fin {x : Nat} (h : isF x) : (double.read x).toInt .zero = some ((uv x).tdiv (U : Int)) := by
 obtain ⟨m, j, h1, h2⟩ := read_fin h
 rw [h1]
 unfold Datum.toInt Datum.integral
 dsimp only
 rw [cut_zero_way, ← units_div, uv, ← h2]
 unfold signed
 rw [Nat.shiftLeft_zero]
 cases sgn x
 ·rw [if_neg (by simp), if_neg (by simp), Int.ofNat_tdiv]
 ·rw [if_pos rfl, if_pos rfl, Int.neg_tdiv, Int.ofNat_tdiv]
theorem floor_neg (a u : Nat) (hu : 0 < u) : (-(a : Int)) / (u : Int) = -((a / u + (a % u != 0).toNat : Nat) : Int) := by
 have h1 := Nat.div_add_mod a u
 have h2 := Nat.mod_lt a hu
 generalize a / u = q at *
 generalize a % u = r at *
 have h3 : (a : Int) = (u : Int) * q + r := by rw [← h1]; simp
 by_cases hr : r = 0
 ·subst hr
  have := (Int.ediv_emod_unique (a := -(a : Int)) (b := u) (r := 0) (q := -(q : Int)) (by omega)).2 ⟨by rw [h3, Int.mul_neg]; simp, by omega, by omega⟩
  rw [this.1]; simp
 ·have := (Int.ediv_emod_unique (a := -(a : Int)) (b := u) (r := (u : Int) - r) (q := -(q : Int) - 1) (by omega)).2 ⟨by rw [h3, Int.mul_sub, Int.mul_neg, Int.mul_one]; omega, by omega, by omega⟩
  rw [this.1, show (r != 0) = true by simp [hr]]
  simp only [Bool.toNat_true, Int.natCast_add, Int.natCast_one]
  omega
def ffloor (s : Nat) : Nat := if isN s then nanc else double.write ((double.read s).integral .down)
theorem ffloor_eq {x : Nat} {s : Bool} {m : Nat} {p : Int} (h : isN x = false) (h1 : double.read x = .number s m p) : ffloor x = double.nearest s (Toward.down.cut s (m <<< p.toNat) (-p).toNat) 0 := by
 unfold ffloor
 rw [h, if_neg (by simp), h1]
 rfl
theorem ffloor_fin {x : Nat} (h : isF x) : isF (ffloor x) ∧ uv (ffloor x) = uv x / (U : Int) * (U : Int) := by
 obtain ⟨m, j, h1, h2, h3⟩ := read_fin2 h
 have hU := U_pos
 rw [ffloor_eq (isF_notN h) h1, cut_down_way, ← units_div, h2]
 by_cases hj : 1074 ≤ j
 ·have hd : unitsOf (rung x) = (m * 2 ^ (j - 1074)) * U := by
   rw [← h2, U_eq, Nat.mul_assoc, ← Nat.pow_add]; congr 2; have := K_eq; omega
  rw [show (-(-1074 + (j : Int))).toNat = 0 by omega, Nat.pow_zero, Nat.mod_one]
  have hw : double.nearest (sgn x) (unitsOf (rung x) / U) 0 = double.word (sgn x) (rung x) := by
   rw [← nearest_units (sgn x) h, hd, Nat.mul_div_cancel _ hU, U_eq, ← Nat.shiftLeft_eq (m * 2 ^ (j - 1074)) K, nearest_scale, K_eq, zero_place]
  have : unitsOf (rung x) / U + (sgn x && (0 : Nat) != 0).toNat = unitsOf (rung x) / U := by simp
  rw [this, hw]
  refine ⟨isF_word _ h, ?_⟩
  rw [uv_word _ h]
  have hdv : ((unitsOf (rung x) : Nat) : Int) = ((m * 2 ^ (j - 1074) : Nat) : Int) * (U : Int) := by rw [hd]; simp
  have hU' : (U : Int) ≠ 0 := by omega
  unfold uv
  cases sgn x
  ·rw [if_neg (by simp), hdv, Int.mul_ediv_cancel _ hU']
  ·rw [if_pos rfl, hdv, ← Int.neg_mul, Int.mul_ediv_cancel _ hU']
 ·rw [show (-1074 + (j : Int)).toNat = 0 by omega, Nat.shiftLeft_zero, show (-(-1074 + (j : Int))).toNat = 1074 - j by omega]
  have hm : (m % 2 ^ (1074 - j) != 0) = (unitsOf (rung x) % U != 0) := by
   rw [← h2, units_mod m j (by omega), Bool.eq_iff_iff, bne_iff_ne, bne_iff_ne]
   have := Nat.two_pow_pos j
   constructor
   ·intro hn hz
    rcases Nat.mul_eq_zero.1 hz with hz | hz
    ·exact hn hz
    ·omega
   ·intro hn hz; exact hn (by rw [hz]; simp)
  rw [hm]
  have hle : unitsOf (rung x) / U ≤ 4503599627370496 := by
   rw [← h2, units_div, show (-1074 + (j : Int)).toNat = 0 by omega, Nat.shiftLeft_zero, show (-(-1074 + (j : Int))).toNat = 1074 - j by omega]
   have h5 : m / 2 ^ (1074 - j) ≤ m / 2 ^ 1 := Nat.div_le_div_left (Nat.pow_le_pow_right (by omega) (by omega)) (by omega)
   omega
  have hb : (sgn x && unitsOf (rung x) % U != 0).toNat ≤ 1 := Bool.toNat_le _
  obtain ⟨r, hr, hu⟩ := rung_of53 (unitsOf (rung x) / U + (sgn x && unitsOf (rung x) % U != 0).toNat) K (by omega) (by rw [K_eq]; omega)
  have hw : double.nearest (sgn x) (unitsOf (rung x) / U + (sgn x && unitsOf (rung x) % U != 0).toNat) 0 = double.word (sgn x) r := by
   rw [← nearest_units _ hr, hu, ← Nat.shiftLeft_eq, nearest_scale, K_eq, zero_place]
  rw [hw]
  refine ⟨isF_word _ hr, ?_⟩
  rw [uv_word _ hr, hu, ← U_eq]
  unfold uv
  cases sgn x
  ·rw [if_neg (by simp), if_neg (by simp)]; simp
  ·rw [if_pos rfl, if_pos rfl, floor_neg _ _ hU, Int.neg_mul]
   simp
end Go.Fl
namespace Go.Fl
open Ieee
theorem cut_bounds (s : Bool) (n d : Nat) : 2 * Toward.even.cut s n d * 2 ^ d ≤ 2 * n + 2 ^ d ∧ 2 * n ≤ 2 * Toward.even.cut s n d * 2 ^ d + 2 ^ d := by
 unfold Toward.cut
 dsimp only
 obtain ⟨e1, e2⟩ := gap_eq n d
 rw [e1, e2]
 have hn := Nat.div_add_mod n (2 ^ d)
 have hp := Nat.two_pow_pos d
 have hr := Nat.mod_lt n hp
 by_cases h : d ≤ n.log2 + 2
 ·rw [Nat.min_eq_left h, Nat.shiftLeft_eq, Nat.one_mul]
  generalize 2 ^ d = g at *
  generalize n / g = q at *
  generalize n % g = r at *
  have hm : 2 * q * g = 2 * (g * q) := by rw [Nat.mul_assoc, Nat.mul_comm q]
  cases hc : (decide (g < 2 * r) || g == 2 * r && q % 2 == 1)
  ·simp only [Bool.or_eq_false_iff, decide_eq_false_iff_not, Bool.and_eq_false_iff, beq_eq_false_iff_ne] at hc
   rw [Bool.toNat_false, Nat.add_zero, hm]
   omega
  ·have hc' : g ≤ 2 * r := by
    simp only [Bool.or_eq_true, decide_eq_true_eq, Bool.and_eq_true, beq_iff_eq] at hc
    omega
   rw [Bool.toNat_true, show 2 * (q + 1) * g = 2 * q * g + 2 * g by rw [← Nat.add_mul, Nat.mul_add], hm]
   omega
 ·have hlt : n < 2 ^ (n.log2 + 1) := Nat.lt_log2_self
  have hp2 : 2 ^ (n.log2 + 2) = 2 * 2 ^ (n.log2 + 1) := by rw [Nat.pow_succ, Nat.mul_comm]
  have hle : 2 ^ (n.log2 + 2) ≤ 2 ^ d := Nat.pow_le_pow_right (by omega) (by omega)
  rw [Nat.min_eq_right (by omega), Nat.shiftLeft_eq, Nat.one_mul]
  have hlow : n / 2 ^ d = 0 := Nat.div_eq_of_lt (by omega)
  have hrest : n % 2 ^ d = n := Nat.mod_eq_of_lt (by omega)
  rw [hlow, hrest]
  have hc : (decide (2 ^ (n.log2 + 2) < 2 * n) || 2 ^ (n.log2 + 2) == 2 * n && (0 : Nat) % 2 == 1) = false := by
   simp; omega
  rw [hc]
  simp
  omega
theorem nearest_at (s : Bool) (m d : Nat) : ∃ k t, double.nearest s m (-1074 - (d : Int)) = double.word s (min (t * 4503599627370496 + k) 9218868437227405312) ∧ k ≤ 9007199254740992 ∧ (0 < t → 4503599627370496 ≤ k) ∧
  2 * k * 2 ^ (t + d) ≤ 2 * m + 2 ^ (t + d) ∧ 2 * m ≤ 2 * k * 2 ^ (t + d) + 2 ^ (t + d) ∧ (0 < t → 4503599627370496 * 2 ^ (t + d) ≤ m) ∧ m < 9007199254740992 * 2 ^ (t + d) := by
 by_cases hm : m = 0
 ·subst hm
  refine ⟨0, 0, ?_, by omega, by omega, by simp, by simp, by omega, ?_⟩
  ·unfold Format.nearest; rw [if_pos rfl]; simp
  ·exact Nat.mul_pos (by omega) (Nat.two_pow_pos _)
 ·obtain ⟨t, ht⟩ : ∃ t, t = m.log2 - 52 - d := ⟨_, rfl⟩
  have hlo : 2 ^ m.log2 ≤ m := Nat.log2_self_le hm
  have hhi : m < 2 ^ (m.log2 + 1) := Nat.lt_log2_self
  have hb := cut_bounds s m (t + d)
  have hup : m < 9007199254740992 * 2 ^ (t + d) := by
   have : 2 ^ (m.log2 + 1) ≤ 2 ^ (53 + (t + d)) := Nat.pow_le_pow_right (by omega) (by omega)
   have e : (2 : Nat) ^ (53 + (t + d)) = 9007199254740992 * 2 ^ (t + d) := by rw [Nat.pow_add]
   omega
  have hdn : 0 < t → 4503599627370496 * 2 ^ (t + d) ≤ m := fun h => by
   have : 2 ^ (52 + (t + d)) = 2 ^ m.log2 := by congr 1; omega
   have e : (2 : Nat) ^ (52 + (t + d)) = 4503599627370496 * 2 ^ (t + d) := by rw [Nat.pow_add]
   omega
  refine ⟨Toward.even.cut s m (t + d), t, ?_, ?_, ?_, hb.1, hb.2, hdn, hup⟩
  ·unfold Format.nearest
   rw [if_neg hm]
   dsimp only
   have hlast : max (-1074 - (d : Int) + (m.log2 : Int) - double.fractionBits) double.leastPlace = -1074 + (t : Int) := by
    rw [lp_eq, show double.fractionBits = 52 from rfl]; omega
   rw [hlast, lp_eq, binade_eq, infRung_eq]
   rw [show ((-1074 : Int) - (d : Int) - (-1074 + (t : Int))).toNat = 0 by omega, Nat.shiftLeft_zero, show (-1074 + (t : Int) - (-1074 - (d : Int))).toNat = t + d by omega, show (-1074 + (t : Int) - -1074).toNat = t by omega]
  ·have hp := Nat.two_pow_pos (t + d)
   generalize Toward.even.cut s m (t + d) = c at *
   generalize 2 ^ (t + d) = g at *
   refine Nat.le_of_not_lt fun h => ?_
   have h2 : 2 * 9007199254740993 * g ≤ 2 * c * g := Nat.mul_le_mul_right g (by omega)
   omega
  ·intro h
   have hd := hdn h
   have hp := Nat.two_pow_pos (t + d)
   generalize Toward.even.cut s m (t + d) = c at *
   generalize 2 ^ (t + d) = g at *
   refine Nat.le_of_not_lt fun h => ?_
   have h2 : 2 * c * g ≤ 2 * 4503599627370495 * g := Nat.mul_le_mul_right g (by omega)
   omega
theorem units_at {k t : Nat} (hk : k ≤ 9007199254740992) (ht : 0 < t → 4503599627370496 ≤ k) : unitsOf (t * 4503599627370496 + k) = k * 2 ^ t := by
 unfold unitsOf
 by_cases h0 : t = 0
 ·subst h0
  rw [Nat.zero_mul, Nat.zero_add, Nat.pow_zero, Nat.mul_one]
  by_cases h1 : k < 4503599627370496
  ·rw [if_pos h1]
  ·rw [if_neg h1]
   by_cases h2 : k = 9007199254740992
   ·subst h2; decide
   ·rw [show k % 4503599627370496 = k - 4503599627370496 by omega, show k / 4503599627370496 - 1 = 0 by omega]; omega
 ·have := ht (by omega)
  rw [if_neg (by omega)]
  by_cases h2 : k = 9007199254740992
  ·subst h2
   rw [show (t * 4503599627370496 + 9007199254740992) % 4503599627370496 = 0 by omega, show (t * 4503599627370496 + 9007199254740992) / 4503599627370496 - 1 = t + 1 by omega, Nat.pow_succ]; omega
  ·rw [show (t * 4503599627370496 + k) % 4503599627370496 = k - 4503599627370496 by omega, show (t * 4503599627370496 + k) / 4503599627370496 - 1 = t by omega, show 4503599627370496 + (k - 4503599627370496) = k by omega]
noncomputable def nrung (m d : Nat) : Nat := rung (double.nearest false m (-1074 - (d : Int)))
theorem rung_word' (s : Bool) (r : Nat) : rung (double.word s (min r 9218868437227405312)) = min r 9218868437227405312 := rung_word s (by omega)
theorem cut_sign (s : Bool) (n d : Nat) : Toward.even.cut s n d = Toward.even.cut false n d := rfl
theorem nearest_word (s : Bool) (m d : Nat) : double.nearest s m (-1074 - (d : Int)) = double.word s (nrung m d) := by
 unfold nrung Format.nearest
 by_cases hm : m = 0
 ·rw [if_pos hm, if_pos hm, rung_word false (by omega)]
 ·rw [if_neg hm, if_neg hm]
  dsimp only
  rw [cut_sign s, infRung_eq, rung_word']
theorem nrung_le {m d r : Nat} (h : m ≤ unitsOf r * 2 ^ d) : nrung m d ≤ r := by
 obtain ⟨k, t, h1, h2, h3, h4, h5, h6, h7⟩ := nearest_at false m d
 unfold nrung
 rw [h1, rung_word']
 refine Nat.le_trans (Nat.min_le_left _ _) ?_
 by_cases hlt : r < t * 4503599627370496 + k
 ·exfalso
  -- r's number is a whole number of steps of 2^t, or below them all
  have hu := unitsOf_lt hlt
  rw [units_at h2 h3] at hu
  have hp := Nat.two_pow_pos t
  have hpd := Nat.two_pow_pos d
  have he : (2 : Nat) ^ (t + d) = 2 ^ t * 2 ^ d := Nat.pow_add ..
  obtain ⟨q, hq⟩ : ∃ q, unitsOf r = q * 2 ^ t ∨ (0 < t ∧ unitsOf r < 4503599627370496 * 2 ^ t) := by
   by_cases h0 : t = 0
   ·exact ⟨unitsOf r, .inl (by subst h0; simp)⟩
   ·by_cases hr : r < t * 4503599627370496 + 4503599627370496
    ·refine ⟨0, .inr ⟨by omega, ?_⟩⟩
     have := unitsOf_lt hr
     rwa [units_at (by omega) (by omega)] at this
    ·refine ⟨r - t * 4503599627370496, .inl ?_⟩
     have := units_at (k := r - t * 4503599627370496) (t := t) (by omega) (by omega)
     rwa [show t * 4503599627370496 + (r - t * 4503599627370496) = r by omega] at this
  rcases hq with hq | ⟨hq1, hq2⟩
  ·rw [hq] at h hu
   have hqk : q < k := Nat.lt_of_mul_lt_mul_right hu
   have : 2 * (q + 1) * 2 ^ (t + d) ≤ 2 * k * 2 ^ (t + d) := Nat.mul_le_mul_right _ (by omega)
   rw [Nat.mul_assoc, ← he] at h
   generalize 2 ^ (t + d) = g at *
   have hg : 0 < g := by rw [he]; exact Nat.mul_pos hp hpd
   have e : 2 * (q + 1) * g = 2 * (q * g) + 2 * g := by rw [Nat.mul_assoc, Nat.add_mul, Nat.mul_add, Nat.one_mul]
   omega
  ·have h8 := h6 hq1
   rw [he] at h8
   have h9 : unitsOf r * 2 ^ d < 4503599627370496 * 2 ^ t * 2 ^ d := Nat.mul_lt_mul_of_pos_right hq2 hpd
   rw [Nat.mul_assoc] at h9
   omega
 ·omega
theorem le_nrung {m d r : Nat} (hr : r ≤ 9218868437227405312) (h : unitsOf r * 2 ^ d ≤ m) : r ≤ nrung m d := by
 obtain ⟨k, t, h1, h2, h3, h4, h5, h6, h7⟩ := nearest_at false m d
 unfold nrung
 rw [h1, rung_word']
 refine Nat.le_min.2 ⟨?_, hr⟩
 by_cases hlt : t * 4503599627370496 + k < r
 ·exfalso
  have hu := unitsOf_lt hlt
  rw [units_at h2 h3] at hu
  have hp := Nat.two_pow_pos t
  have hpd := Nat.two_pow_pos d
  have he : (2 : Nat) ^ (t + d) = 2 ^ t * 2 ^ d := Nat.pow_add ..
  by_cases hr2 : r ≤ t * 4503599627370496 + 9007199254740992
  ·have := units_at (k := r - t * 4503599627370496) (t := t) (by omega) (by omega)
   rw [show t * 4503599627370496 + (r - t * 4503599627370496) = r by omega] at this
   rw [this] at h hu
   generalize r - t * 4503599627370496 = q at *
   have hqk : k < q := Nat.lt_of_mul_lt_mul_right hu
   have h8 : 2 * (k + 1) * 2 ^ (t + d) ≤ 2 * q * 2 ^ (t + d) := Nat.mul_le_mul_right _ (by omega)
   rw [Nat.mul_assoc, ← he] at h
   generalize 2 ^ (t + d) = g at *
   have hg : 0 < g := by rw [he]; exact Nat.mul_pos hp hpd
   have e : 2 * (k + 1) * g = 2 * k * g + 2 * g := by rw [Nat.mul_assoc, Nat.add_mul, Nat.mul_add, Nat.one_mul, Nat.mul_assoc]
   have e2 : 2 * q * g = 2 * (q * g) := Nat.mul_assoc ..
   omega
  ·have h8 : unitsOf (t * 4503599627370496 + 9007199254740992) < unitsOf r := unitsOf_lt (by omega)
   rw [units_at (by omega) (by omega)] at h8
   have h9 : 9007199254740992 * 2 ^ t * 2 ^ d ≤ unitsOf r * 2 ^ d := Nat.mul_le_mul_right _ (Nat.le_of_lt h8)
   rw [Nat.mul_assoc, ← he] at h9
   omega
 ·omega
theorem nrung_near {m d : Nat} (h : nrung m d < 9218868437227405312) : ∃ t, 2 * (unitsOf (nrung m d) * 2 ^ d) ≤ 2 * m + 2 ^ (t + d) ∧ 2 * m ≤ 2 * (unitsOf (nrung m d) * 2 ^ d) + 2 ^ (t + d) ∧ (0 < t → 4503599627370496 * 2 ^ (t + d) ≤ m) := by
 obtain ⟨k, t, h1, h2, h3, h4, h5, h6, h7⟩ := nearest_at false m d
 unfold nrung at *
 rw [h1, rung_word'] at h ⊢
 rw [Nat.min_eq_left (by omega), units_at h2 h3]
 have he : k * 2 ^ t * 2 ^ d = k * 2 ^ (t + d) := by rw [Nat.pow_add, Nat.mul_assoc]
 rw [he, ← Nat.mul_assoc]
 exact ⟨t, h4, h5, h6⟩
end Go.Fl
namespace Go.Fl
open Ieee
def Uq : Rat := ((U : Int) : Rat)
def fv (x : Nat) : Rat := (uv x : Rat) / Uq
theorem Uq_pos : (0 : Rat) < Uq := by
 unfold Uq
 have h := U_pos
 have : ((0 : Int) : Rat) < ((U : Int) : Rat) := Rat.intCast_lt_intCast.2 (by omega)
 simpa using this
theorem Uq_ne : Uq ≠ 0 := by have := Uq_pos; grind
theorem fv_mul (x : Nat) : fv x * Uq = (uv x : Rat) := by
 unfold fv
 have := Uq_ne
 grind
theorem le_of_mul_le {a b c : Rat} (hc : 0 < c) (h : a * c ≤ b * c) : a ≤ b := by
 rcases Rat.le_total (a := a) (b := b) with h1 | h1
 ·exact h1
 ·have h2 := Rat.mul_le_mul_of_nonneg_right h1 (Rat.le_of_lt hc)
  have h3 : a * c = b * c := Rat.le_antisymm h h2
  have h4 : (a - b) * c = 0 := by grind
  have : a - b = 0 := by
   rcases Rat.mul_eq_zero.1 h4 with h5 | h5
   ·exact h5
   ·grind
  grind
theorem fv_le {x y : Nat} : fv x ≤ fv y ↔ uv x ≤ uv y := by
 constructor
 ·intro h
  have := Rat.mul_le_mul_of_nonneg_right h (Rat.le_of_lt Uq_pos)
  rw [fv_mul, fv_mul] at this
  exact Rat.intCast_le_intCast.1 this
 ·intro h
  refine le_of_mul_le Uq_pos ?_
  rw [fv_mul, fv_mul]
  exact Rat.intCast_le_intCast.2 h
def P2 (d : Nat) : Rat := ((2 ^ d : Nat) : Int)
theorem P2_pos (d : Nat) : (0 : Rat) < P2 d := by
 unfold P2
 have h := Nat.two_pow_pos d
 have : ((0 : Int) : Rat) < (((2 ^ d : Nat) : Int) : Rat) := Rat.intCast_lt_intCast.2 (by omega)
 simpa using this
def Exact (q : Rat) (z : Int) (d : Nat) : Prop := q * (P2 d * Uq) = (z : Rat)
theorem Exact.ge {q : Rat} {z : Int} {d : Nat} (h : Exact q z d) {f : Nat} : fv f ≤ q ↔ uv f * ((2 ^ d : Nat) : Int) ≤ z := by
 have hp : 0 < P2 d * Uq := Rat.mul_pos (P2_pos d) Uq_pos
 have e : fv f * (P2 d * Uq) = ((uv f * ((2 ^ d : Nat) : Int) : Int) : Rat) := by
  rw [Rat.intCast_mul]
  have := fv_mul f
  unfold P2
  grind
 unfold Exact at h
 constructor
 ·intro h1
  have := Rat.mul_le_mul_of_nonneg_right h1 (Rat.le_of_lt hp)
  rw [e, h] at this
  exact Rat.intCast_le_intCast.1 this
 ·intro h1
  refine le_of_mul_le hp ?_
  rw [e, h]
  exact Rat.intCast_le_intCast.2 h1
theorem Exact.le {q : Rat} {z : Int} {d : Nat} (h : Exact q z d) {f : Nat} : q ≤ fv f ↔ z ≤ uv f * ((2 ^ d : Nat) : Int) := by
 have hp : 0 < P2 d * Uq := Rat.mul_pos (P2_pos d) Uq_pos
 have e : fv f * (P2 d * Uq) = ((uv f * ((2 ^ d : Nat) : Int) : Int) : Rat) := by
  rw [Rat.intCast_mul]
  have := fv_mul f
  unfold P2
  grind
 unfold Exact at h
 constructor
 ·intro h1
  have := Rat.mul_le_mul_of_nonneg_right h1 (Rat.le_of_lt hp)
  rw [e, h] at this
  exact Rat.intCast_le_intCast.1 this
 ·intro h1
  refine le_of_mul_le hp ?_
  rw [e, h]
  exact Rat.intCast_le_intCast.2 h1
def eps : Rat := 1 / 4503599627370496
def eps0 : Rat := 1 / 9007199254740992
def eta : Rat := 1 / (2 * Uq)
structure RdE (e : Rat) (q : Rat) (r : Nat) : Prop where
 notN : isN r = false
 ge : ∀ f, isF f → isF r → fv f ≤ q → fv f ≤ fv r
 le : ∀ f, isF f → isF r → q ≤ fv f → fv r ≤ fv f
 fin : ∀ f g, isF f → isF g → fv f ≤ q → q ≤ fv g → isF r
 near : ∀ B, -B ≤ q → q ≤ B → isF r → fv r - q ≤ B * e + eta ∧ q - fv r ≤ B * e + eta
abbrev Rd (q : Rat) (r : Nat) : Prop := RdE eps q r
theorem RdE.rd {q : Rat} {r : Nat} (h : RdE eps0 q r) : Rd q r := by
 refine ⟨h.notN, h.ge, h.le, h.fin, fun B h1 h2 hr => ?_⟩
 obtain ⟨a, b⟩ := h.near B h1 h2 hr
 have hB : (0 : Rat) ≤ B := by grind
 have he : eps = eps0 + eps0 := by unfold eps eps0; grind
 have h0 : (0 : Rat) ≤ eps0 := by unfold eps0; grind
 have := Rat.mul_nonneg hB h0
 have e2 : B * eps = B * eps0 + B * eps0 := by rw [he]; grind
 rw [e2]
 constructor <;> grind
theorem isF_word_iff (s : Bool) {r : Nat} (h : r ≤ 9218868437227405312) : isF (double.word s r) ↔ r < 9218868437227405312 := by
 unfold isF
 rw [rung_word s (by omega)]
theorem nrung_top (m d : Nat) : nrung m d ≤ 9218868437227405312 := by
 unfold nrung
 obtain ⟨k, t, h1, _⟩ := nearest_at false m d
 rw [h1, rung_word']
 exact Nat.min_le_right _ _
theorem uv_of_sgn {f : Nat} : uv f = (unitsOf (rung f) : Int) ∨ uv f = -(unitsOf (rung f) : Int) := by
 unfold uv; split
 ·exact .inr rfl
 ·exact .inl rfl
theorem notN_word (s : Bool) {r : Nat} (h : r ≤ 9218868437227405312) : isN (double.word s r) = false :=
 read_word_infRung_le s (by rw [infRung_eq]; exact h)
theorem rd_word {q : Rat} (s : Bool) (m d : Nat) (hq : Exact q (if s then -(m : Int) else m) d) : RdE eps0 q (double.word s (nrung m d)) := by
 have htop := nrung_top m d
 have hfin : isF (double.word s (nrung m d)) → uv (double.word s (nrung m d)) = if s then -(unitsOf (nrung m d) : Int) else unitsOf (nrung m d) := fun h => uv_word s ((isF_word_iff s htop).1 h)
 have hcast : ∀ u : Nat, ((u : Int) * ((2 ^ d : Nat) : Int)) = ((u * 2 ^ d : Nat) : Int) := fun u => by rw [Int.natCast_mul]
 -- the words not above it
 have hge : ∀ f, isF f → fv f ≤ q → (s = false → 0 ≤ uv f → rung f ≤ nrung m d) ∧ (s = true → uv f ≤ 0 ∧ nrung m d ≤ rung f) := fun f hf h => by
  have h1 := hq.ge.1 h
  refine ⟨fun hs h0 => ?_, fun hs => ?_⟩
  ·subst hs
   refine le_nrung (by unfold isF at hf; omega) ?_
   rw [if_neg (by simp)] at h1
   rcases uv_of_sgn (f := f) with e | e
   ·rw [e, hcast] at h1; omega
   ·have : unitsOf (rung f) = 0 := by omega
    rw [this]; omega
  ·subst hs
   rw [if_pos rfl] at h1
   have hp := Nat.two_pow_pos d
   have hn : uv f ≤ 0 := by
    rcases Int.lt_or_le 0 (uv f) with h2 | h2
    ·have := Int.mul_pos h2 (show (0 : Int) < ((2 ^ d : Nat) : Int) by omega)
     omega
    ·exact h2
   refine ⟨hn, nrung_le ?_⟩
   rcases uv_of_sgn (f := f) with e | e
   ·have : unitsOf (rung f) = 0 := by omega
    rw [e, this] at h1
    omega
   ·rw [e, Int.neg_mul, hcast] at h1; omega
 have hle : ∀ f, isF f → q ≤ fv f → (s = true → uv f ≤ 0 → rung f ≤ nrung m d) ∧ (s = false → 0 ≤ uv f ∧ nrung m d ≤ rung f) := fun f hf h => by
  have h1 := hq.le.1 h
  refine ⟨fun hs h0 => ?_, fun hs => ?_⟩
  ·subst hs
   refine le_nrung (by unfold isF at hf; omega) ?_
   rw [if_pos rfl] at h1
   rcases uv_of_sgn (f := f) with e | e
   ·have : unitsOf (rung f) = 0 := by omega
    rw [this]; omega
   ·rw [e, Int.neg_mul, hcast] at h1; omega
  ·subst hs
   rw [if_neg (by simp)] at h1
   have hp := Nat.two_pow_pos d
   have hn : 0 ≤ uv f := by
    rcases Int.lt_or_le (uv f) 0 with h2 | h2
    ·have := Int.mul_neg_of_neg_of_pos h2 (show (0 : Int) < ((2 ^ d : Nat) : Int) by omega)
     omega
    ·exact h2
   refine ⟨hn, nrung_le ?_⟩
   rcases uv_of_sgn (f := f) with e | e
   ·rw [e, hcast] at h1; omega
   ·have : unitsOf (rung f) = 0 := by omega
    rw [e, this] at h1
    omega
 refine ⟨notN_word s htop, ?_, ?_, ?_, ?_⟩
 ·intro f hf hr h
  obtain ⟨a, b⟩ := hge f hf h
  rw [fv_le, hfin hr]
  cases s with
  | false =>
   rw [if_neg (by simp)]
   rcases Int.lt_or_le (uv f) 0 with h2 | h2
   ·omega
   ·have := unitsOf_le (a rfl h2)
    rcases uv_of_sgn (f := f) with e | e <;> omega
  | true =>
   rw [if_pos rfl]
   obtain ⟨b1, b2⟩ := b rfl
   have := unitsOf_le b2
   rcases uv_of_sgn (f := f) with e | e <;> omega
 ·intro f hf hr h
  obtain ⟨a, b⟩ := hle f hf h
  rw [fv_le, hfin hr]
  cases s with
  | true =>
   rw [if_pos rfl]
   rcases Int.lt_or_le 0 (uv f) with h2 | h2
   ·omega
   ·have := unitsOf_le (a rfl h2)
    rcases uv_of_sgn (f := f) with e | e <;> omega
  | false =>
   rw [if_neg (by simp)]
   obtain ⟨b1, b2⟩ := b rfl
   have := unitsOf_le b2
   rcases uv_of_sgn (f := f) with e | e <;> omega
 ·intro f g hf hg h1 h2
  rw [isF_word_iff s htop]
  cases s with
  | true => have := ((hge f hf h1).2 rfl).2; unfold isF at hf; omega
  | false => have := ((hle g hg h2).2 rfl).2; unfold isF at hg; omega
 ·intro B hB1 hB2 hr
  obtain ⟨t, n1, n2, n3⟩ := nrung_near ((isF_word_iff s htop).1 hr)
  -- in steps0: 2 |r 2^d - m| ≤ 2^(t+d)
  have hm : fv (double.word s (nrung m d)) * (P2 d * Uq) = (((if s then -((unitsOf (nrung m d) * 2 ^ d : Nat) : Int) else ((unitsOf (nrung m d) * 2 ^ d : Nat) : Int)) : Int) : Rat) := by
   have h1 := fv_mul (double.word s (nrung m d))
   rw [hfin hr] at h1
   have h2 : fv (double.word s (nrung m d)) * (P2 d * Uq) = (fv (double.word s (nrung m d)) * Uq) * P2 d := by grind
   rw [h2, h1]
   unfold P2
   rw [← Rat.intCast_mul]
   cases s <;> simp <;> grind
  have hB : ∃ z : Int, (z = 2 * ((unitsOf (nrung m d) * 2 ^ d : Nat) : Int) - 2 * m) ∧ z ≤ ((2 ^ (t + d) : Nat) : Int) ∧ -((2 ^ (t + d) : Nat) : Int) ≤ z := ⟨_, rfl, by omega, by omega⟩
  obtain ⟨z, hz, z1, z2⟩ := hB
  have hpU : 0 < P2 d * Uq := Rat.mul_pos (P2_pos d) Uq_pos
  have hzq : (2 * (fv (double.word s (nrung m d)) - q)) * (P2 d * Uq) = ((if s then -z else z : Int) : Rat) := by
   unfold Exact at hq
   have e1 : (2 * (fv (double.word s (nrung m d)) - q)) * (P2 d * Uq) = 2 * (fv (double.word s (nrung m d)) * (P2 d * Uq)) - 2 * (q * (P2 d * Uq)) := by grind
   rw [e1, hm, hq, hz]
   cases s
   ·simp only [Bool.false_eq_true, if_false]
    rw [Rat.intCast_sub, Rat.intCast_mul, Rat.intCast_mul]; rfl
   ·simp only [if_true]
    rw [Rat.intCast_neg, Rat.intCast_neg, Rat.intCast_neg, Rat.intCast_sub, Rat.intCast_mul, Rat.intCast_mul]
    have : ((2 : Int) : Rat) = 2 := rfl
    rw [this]
    grind
  have hstep : ((2 ^ (t + d) : Nat) : Int) * 1 ≤ ((2 ^ (t + d) : Nat) : Int) := by omega
  -- the step itself: at most |q| 2^-52 or one unit
  have hS : (((2 ^ (t + d) : Nat) : Int) : Rat) ≤ 2 * (B * eps0 + eta) * (P2 d * Uq) := by
   have hpe : (2 * (B * eps0 + eta)) * (P2 d * Uq) = B * (P2 d * Uq) * (2 * eps0) + P2 d * ((2 * eta) * Uq) := by grind
   have heta : (2 * eta) * Uq = 1 := by unfold eta; have := Uq_ne; grind
   rw [hpe, heta]
   have hBm : (m : Rat) ≤ B * (P2 d * Uq) := by
    unfold Exact at hq
    cases s with
    | false =>
     rw [if_neg (by simp)] at hq
     have := Rat.mul_le_mul_of_nonneg_right hB2 (Rat.le_of_lt hpU)
     rw [hq] at this
     exact this
    | true =>
     rw [if_pos rfl, Rat.intCast_neg] at hq
     have := Rat.mul_le_mul_of_nonneg_right hB1 (Rat.le_of_lt hpU)
     rw [hq] at this
     have e2 : ((m : Int) : Rat) = (m : Rat) := rfl
     grind
   have hPd := P2_pos d
   have heps : (2 * eps0) * 4503599627370496 = 1 := by unfold eps0; grind
   by_cases ht : 0 < t
   ·have h3 := n3 ht
    have h4 : ((4503599627370496 * 2 ^ (t + d) : Nat) : Rat) ≤ (m : Rat) := by
     have := Rat.intCast_le_intCast.2 (show ((4503599627370496 * 2 ^ (t + d) : Nat) : Int) ≤ (m : Int) by omega)
     exact this
    rw [Rat.natCast_mul] at h4
    have e3 : (((2 ^ (t + d) : Nat) : Int) : Rat) = ((2 ^ (t + d) : Nat) : Rat) := rfl
    rw [e3]
    generalize ((2 ^ (t + d) : Nat) : Rat) = g at *
    have h5 : ((4503599627370496 : Nat) : Rat) = 4503599627370496 := rfl
    rw [h5] at h4
    have h6 : 4503599627370496 * g ≤ B * (P2 d * Uq) := Rat.le_trans h4 hBm
    have h7 : (0 : Rat) ≤ 2 * eps0 := by unfold eps0; grind
    have h8 := Rat.mul_le_mul_of_nonneg_right h6 h7
    have h9 : 4503599627370496 * g * (2 * eps0) = g := by
     have : 4503599627370496 * g * (2 * eps0) = g * ((2 * eps0) * 4503599627370496) := by grind
     rw [this, heps]; grind
    grind
   ·obtain rfl : t = 0 := by omega
    rw [Nat.zero_add]
    have h0 : (0 : Rat) ≤ B := by grind
    have h7 : (0 : Rat) ≤ 2 * eps0 := by unfold eps0; grind
    have := Rat.mul_nonneg (Rat.mul_nonneg h0 (Rat.le_of_lt hpU)) h7
    have e4 : (((2 ^ d : Nat) : Int) : Rat) = P2 d := rfl
    grind
  have z1' : (z : Rat) ≤ (((2 ^ (t + d) : Nat) : Int) : Rat) := Rat.intCast_le_intCast.2 z1
  have z2' : -(((2 ^ (t + d) : Nat) : Int) : Rat) ≤ (z : Rat) := by rw [← Rat.intCast_neg]; exact Rat.intCast_le_intCast.2 z2
  have k1 : ((if s then -z else z : Int) : Rat) ≤ (((2 ^ (t + d) : Nat) : Int) : Rat) := by
   cases s
   ·exact z1'
   ·simp only [if_true]; rw [Rat.intCast_neg]; grind
  have k2 : -(((2 ^ (t + d) : Nat) : Int) : Rat) ≤ ((if s then -z else z : Int) : Rat) := by
   cases s
   ·exact z2'
   ·simp only [if_true]; rw [Rat.intCast_neg]; grind
  constructor
  ·have : (2 * (fv (double.word s (nrung m d)) - q)) * (P2 d * Uq) ≤ (2 * (B * eps0 + eta)) * (P2 d * Uq) := by
    rw [hzq]; exact Rat.le_trans k1 hS
   have := le_of_mul_le hpU this
   grind
  ·have : (-(2 * (B * eps0 + eta))) * (P2 d * Uq) ≤ (2 * (fv (double.word s (nrung m d)) - q)) * (P2 d * Uq) := by
    rw [hzq]
    have e5 : (-(2 * (B * eps0 + eta))) * (P2 d * Uq) = -(2 * (B * eps0 + eta) * (P2 d * Uq)) := by grind
    rw [e5]
    grind
   have := le_of_mul_le hpU this
   grind
end Go.Fl
namespace Go.Fl
open Ieee
theorem toIntVal_fin {x : Nat} {lo hi : Int} (h : isF x) (h1 : lo * (U : Int) ≤ uv x) (h2 : uv x ≤ hi * (U : Int)) (hlo : -4611686018427387904 ≤ lo ∧ lo ≤ 0) (hhi : 0 ≤ hi ∧ hi ≤ 4611686018427387904) :
  floatToIntVal .f64 x .i64 = some ((uv x).tdiv (U : Int)) := by
 unfold floatToIntVal
 show (match (double.read x).toInt .zero with | some n => _ | none => _) = _
 rw [toInt_fin h]
 dsimp only
 have hU : (0 : Int) < (U : Int) := by exact_mod_cast U_pos
 have hb : ((uv x).tdiv (U : Int)).natAbs ≤ 4611686018427387904 := by
  rw [Int.natAbs_tdiv, Int.natAbs_natCast]
  refine Nat.div_le_of_le_mul ?_
  have hab : (uv x).natAbs ≤ 4611686018427387904 * U := by
   have e1 : lo * (U : Int) ≥ -(4611686018427387904 * (U : Int)) := by
    rw [← Int.neg_mul]; exact Int.mul_le_mul_of_nonneg_right (by omega) (by omega)
   have e2 : hi * (U : Int) ≤ 4611686018427387904 * (U : Int) := Int.mul_le_mul_of_nonneg_right (by omega) (by omega)
   have e3 : ((4611686018427387904 * U : Nat) : Int) = 4611686018427387904 * (U : Int) := by simp
   omega
  rw [Nat.mul_comm]; exact hab
 have e1 : IntKind.i64.min = -9223372036854775808 := rfl
 have e2 : IntKind.i64.max = 9223372036854775807 := rfl
 rw [if_pos (by rw [e1, e2]; omega)]
theorem ffloor_cn (x : Nat) : ffloor (cn x) = ffloor x := by
 cases h : isN x
 ·rw [cn_of_notN h]
 ·rw [cn_of_N h]; unfold ffloor; rw [h, isN_nanc]; rfl
end Go.Fl
namespace Go.Fl
open Ieee
theorem P2_K : P2 K = Uq := rfl
theorem P2_zero : P2 0 = 1 := rfl
theorem natAbs_sgn (n : Int) (s : Bool) (hs : n = 0 ∨ s = decide (n < 0)) : (if s then -(n.natAbs : Int) else n.natAbs) = n := by
 rcases hs with rfl | rfl
 ·cases s <;> rfl
 ·by_cases h : n < 0
  ·rw [if_pos (decide_eq_true h)]; omega
  ·rw [if_neg (by simp; omega)]; omega
theorem roundU_rd (z : Bool) (n : Int) (q : Rat) (hq : q * Uq = (n : Rat)) : Rd q (roundU z n) := by
 unfold roundU
 have e : (-1074 : Int) = -1074 - ((0 : Nat) : Int) := rfl
 rw [e, nearest_word]
 refine (rd_word _ _ _ ?_).rd
 unfold Exact
 rw [natAbs_sgn, P2_zero]
 ·grind
 ·by_cases h : n = 0
  ·exact .inl h
  ·rw [if_neg h]; exact .inr rfl
theorem add_rd {x y : Nat} (hx : isF x) (hy : isF y) : Rd (fv x + fv y) (fadd x y) := by
 rw [add_fin hx hy]
 refine roundU_rd _ _ _ ?_
 have h1 := fv_mul x
 have h2 := fv_mul y
 rw [Rat.intCast_add]
 grind
theorem sub_rd {x y : Nat} (hx : isF x) (hy : isF y) : Rd (fv x - fv y) (fsub x y) := by
 rw [sub_fin hx hy]
 refine roundU_rd _ _ _ ?_
 have h1 := fv_mul x
 have h2 := fv_mul y
 rw [Rat.intCast_sub]
 grind
theorem nearest_at_place (s : Bool) (m a b : Nat) : double.nearest s m (-1074 + (a : Int) + (-1074 + (b : Int))) = double.word s (nrung (m * 2 ^ (a + b)) K) := by
 rw [← nearest_word, ← Nat.shiftLeft_eq, nearest_scale]
 congr 1
 rw [K_eq]; omega
theorem mul_fin {x y : Nat} (hx : isF x) (hy : isF y) : fmul x y = double.word (sgn x ^^ sgn y) (nrung (unitsOf (rung x) * unitsOf (rung y)) K) := by
 obtain ⟨m, a, h1, h2⟩ := read_fin hx
 obtain ⟨n, b, h3, h4⟩ := read_fin hy
 unfold fmul Format.mul
 rw [h1, h3]
 show double.nearest (sgn x ^^ sgn y) (m * n) (-1074 + (a : Int) + (-1074 + (b : Int))) = _
 rw [nearest_at_place, ← h2, ← h4, Nat.pow_add]
 congr 2
 rw [Nat.mul_assoc, Nat.mul_assoc]
 congr 1
 rw [Nat.mul_left_comm]
theorem uv_mul (x y : Nat) : uv x * uv y = if sgn x ^^ sgn y then -((unitsOf (rung x) * unitsOf (rung y) : Nat) : Int) else ((unitsOf (rung x) * unitsOf (rung y) : Nat) : Int) := by
 unfold uv
 cases sgn x <;> cases sgn y <;> simp <;> grind
theorem mul_rd {x y : Nat} (hx : isF x) (hy : isF y) : Rd (fv x * fv y) (fmul x y) := by
 rw [mul_fin hx hy]
 refine (rd_word _ _ _ ?_).rd
 unfold Exact
 rw [P2_K, ← uv_mul, Rat.intCast_mul, ← fv_mul, ← fv_mul]
 grind
theorem fv_wz {z : Int} (h : z.natAbs ≤ 9007199254740992) : isF (wz z) ∧ fv (wz z) = (z : Rat) := by
 obtain ⟨h1, h2, _⟩ := wz_read h
 refine ⟨h1, ?_⟩
 unfold fv
 rw [h2, Rat.intCast_mul]
 have := Uq_ne
 have e : ((U : Int) : Rat) = Uq := rfl
 rw [e]
 grind
def flI (x : Nat) : Int := uv x / (U : Int)
theorem flI_le (x : Nat) : ((flI x : Int) : Rat) ≤ fv x := by
 refine le_of_mul_le Uq_pos ?_
 rw [fv_mul]
 have e : ((flI x : Int) : Rat) * Uq = ((flI x * (U : Int) : Int) : Rat) := by rw [Rat.intCast_mul]; rfl
 rw [e]
 refine Rat.intCast_le_intCast.2 ?_
 exact Int.ediv_mul_le _ (by have := U_pos; omega)
theorem lt_flI (x : Nat) : fv x < ((flI x : Int) : Rat) + 1 := by
 have hU : (0 : Int) < (U : Int) := by have := U_pos; omega
 have h : uv x < (flI x + 1) * (U : Int) := Int.lt_ediv_add_one_mul_self _ hU
 rcases Rat.le_total (a := ((flI x : Int) : Rat) + 1) (b := fv x) with h1 | h1
 ·exfalso
  have h2 := Rat.mul_le_mul_of_nonneg_right h1 (Rat.le_of_lt Uq_pos)
  rw [fv_mul] at h2
  have e : (((flI x : Int) : Rat) + 1) * Uq = (((flI x + 1) * (U : Int) : Int) : Rat) := by rw [Rat.intCast_mul, Rat.intCast_add]; rfl
  rw [e] at h2
  have := Rat.intCast_le_intCast.1 h2
  omega
 ·refine Rat.lt_of_le_of_ne h1 fun h3 => ?_
  have h4 : fv x * Uq = (((flI x : Int) : Rat) + 1) * Uq := by rw [h3]
  rw [fv_mul] at h4
  have e : (((flI x : Int) : Rat) + 1) * Uq = (((flI x + 1) * (U : Int) : Int) : Rat) := by rw [Rat.intCast_mul, Rat.intCast_add]; rfl
  rw [e] at h4
  have := Rat.intCast_inj.1 h4
  omega
theorem floor_rat {x : Nat} (h : isF x) : isF (ffloor x) ∧ fv (ffloor x) = ((flI x : Int) : Rat) := by
 obtain ⟨h1, h2⟩ := ffloor_fin h
 refine ⟨h1, ?_⟩
 unfold fv
 rw [h2, Rat.intCast_mul]
 have := Uq_ne
 have e : ((U : Int) : Rat) = Uq := rfl
 rw [e]
 unfold flI
 grind
theorem quot_cmp {κ m n a b S more M j : Nat} (hM : M < 9007199254740992) (hn : 0 < n) (hD : 9007199254740992 * n ≤ m * 2 ^ more) (hS : S = more + 1 + b) :
  let D := m * 2 ^ more
  let Q := 2 * (D / n) + (D % n != 0).toNat
  ((M * 2 ^ j) * (n * 2 ^ b) ≤ (m * 2 ^ a) * 2 ^ κ ↔ M * 2 ^ (j + S) ≤ Q * 2 ^ (a + κ)) ∧ ((m * 2 ^ a) * 2 ^ κ ≤ (M * 2 ^ j) * (n * 2 ^ b) ↔ Q * 2 ^ (a + κ) ≤ M * 2 ^ (j + S)) := by
 intro D Q
 have hW := Nat.two_pow_pos (a + κ)
 have hdm : n * (D / n) + D % n = D := Nat.div_add_mod D n
 have hml : D % n < n := Nat.mod_lt _ hn
 have hmore := Nat.two_pow_pos (more + 1)
 -- both sides by 2^(more+1)
 have e1 : ((M * 2 ^ j) * (n * 2 ^ b)) * 2 ^ (more + 1) = n * (M * 2 ^ (j + S)) := by
  have h0 : 2 ^ (j + S) = 2 ^ j * 2 ^ b * 2 ^ (more + 1) := by rw [hS, show j + (more + 1 + b) = j + b + (more + 1) by omega, Nat.pow_add, Nat.pow_add]
  rw [h0]
  generalize 2 ^ (more + 1) = p1
  generalize 2 ^ j = p2
  generalize 2 ^ b = p3
  ac_rfl
 have e2 : ((m * 2 ^ a) * 2 ^ κ) * 2 ^ (more + 1) = 2 * D * 2 ^ (a + κ) := by
  show _ = 2 * (m * 2 ^ more) * 2 ^ (a + κ)
  have h0 : 2 ^ (a + κ) = 2 ^ a * 2 ^ κ := Nat.pow_add ..
  have h1 : 2 ^ (more + 1) = 2 ^ more * 2 := Nat.pow_succ ..
  rw [h0, h1]
  generalize 2 ^ more = p1
  generalize 2 ^ a = p2
  generalize 2 ^ κ = p3
  ac_rfl
 have l1 : ((M * 2 ^ j) * (n * 2 ^ b) ≤ (m * 2 ^ a) * 2 ^ κ ↔ n * (M * 2 ^ (j + S)) ≤ 2 * D * 2 ^ (a + κ)) := by
  rw [← e1, ← e2]; exact (Nat.mul_le_mul_right_iff hmore).symm
 have l2 : ((m * 2 ^ a) * 2 ^ κ ≤ (M * 2 ^ j) * (n * 2 ^ b) ↔ 2 * D * 2 ^ (a + κ) ≤ n * (M * 2 ^ (j + S))) := by
  rw [← e1, ← e2]; exact (Nat.mul_le_mul_right_iff hmore).symm
 rw [l1, l2]
 have hq0 : 9007199254740992 ≤ D / n := by rw [Nat.le_div_iff_mul_le hn]; exact hD
 by_cases hc : a + κ + 1 ≤ j + S
 ·obtain ⟨c, hcc⟩ : ∃ c, M * 2 ^ (j + S) = (2 * c) * 2 ^ (a + κ) := ⟨M * 2 ^ (j + S - (a + κ + 1)), by
   have h0 : 2 ^ (j + S) = 2 ^ (j + S - (a + κ + 1)) * 2 * 2 ^ (a + κ) := by
    rw [← Nat.pow_succ, ← Nat.pow_add]; congr 1; omega
   rw [h0]
   generalize 2 ^ (a + κ) = p1
   generalize 2 ^ (j + S - (a + κ + 1)) = p2
   ac_rfl⟩
  rw [hcc]
  have f1 : n * (2 * c * 2 ^ (a + κ)) ≤ 2 * D * 2 ^ (a + κ) ↔ n * c ≤ D := by
   rw [show n * (2 * c * 2 ^ (a + κ)) = (2 * (n * c)) * 2 ^ (a + κ) by ac_rfl, Nat.mul_le_mul_right_iff hW]; omega
  have f2 : 2 * D * 2 ^ (a + κ) ≤ n * (2 * c * 2 ^ (a + κ)) ↔ D ≤ n * c := by
   rw [show n * (2 * c * 2 ^ (a + κ)) = (2 * (n * c)) * 2 ^ (a + κ) by ac_rfl, Nat.mul_le_mul_right_iff hW]; omega
  rw [f1, f2, Nat.mul_le_mul_right_iff hW, Nat.mul_le_mul_right_iff hW]
  have g1 : n * c ≤ D ↔ c ≤ D / n := by rw [Nat.le_div_iff_mul_le hn, Nat.mul_comm]
  have g2 : D ≤ n * c ↔ 2 * (D / n) + (D % n != 0).toNat ≤ 2 * c := by
   by_cases hr : D % n = 0
   ·rw [hr]
    have : D = n * (D / n) := by omega
    constructor
    ·intro h
     have : n * (D / n) ≤ n * c := by omega
     have := Nat.le_of_mul_le_mul_left this hn
     simp; omega
    ·intro h
     simp at h
     have : n * (D / n) ≤ n * c := Nat.mul_le_mul_left _ (by omega)
     omega
   ·have hb : (D % n != 0).toNat = 1 := by simp [hr]
    rw [hb]
    constructor
    ·intro h
     rcases Nat.lt_or_ge (D / n) c with h3 | h3
     ·omega
     ·have : n * c ≤ n * (D / n) := Nat.mul_le_mul_left _ h3
      omega
    ·intro h
     have : n * (D / n + 1) ≤ n * c := Nat.mul_le_mul_left _ (by omega)
     rw [Nat.mul_add] at this
     omega
  refine ⟨g1.trans ?_, g2⟩
  show _ ↔ 2 * c ≤ 2 * (D / n) + (D % n != 0).toNat
  cases (D % n != 0) <;> simp <;> omega
 ·have hz : M * 2 ^ (j + S) < 9007199254740992 * 2 ^ (a + κ) := by
   have h3 : 2 ^ (j + S) ≤ 2 ^ (a + κ) := Nat.pow_le_pow_right (by omega) (by omega)
   have h4 : M * 2 ^ (j + S) ≤ M * 2 ^ (a + κ) := Nat.mul_le_mul_left _ h3
   have h5 : M * 2 ^ (a + κ) < 9007199254740992 * 2 ^ (a + κ) := Nat.mul_lt_mul_of_pos_right hM hW
   omega
  have hQ : 9007199254740992 * 2 ^ (a + κ) ≤ Q * 2 ^ (a + κ) := Nat.mul_le_mul_right _ (by show _ ≤ 2 * (D / n) + _; omega)
  have hD2 : 9007199254740992 * n * 2 ^ (a + κ) ≤ D * 2 ^ (a + κ) := Nat.mul_le_mul_right _ hD
  have hnz : n * (M * 2 ^ (j + S)) < n * (9007199254740992 * 2 ^ (a + κ)) := Nat.mul_lt_mul_of_pos_left hz hn
  have e3 : n * (9007199254740992 * 2 ^ (a + κ)) = 9007199254740992 * n * 2 ^ (a + κ) := by ac_rfl
  have e4 : 2 * D * 2 ^ (a + κ) = 2 * (D * 2 ^ (a + κ)) := by ac_rfl
  constructor
  ·constructor <;> intro _ <;> omega
  ·constructor <;> intro _ <;> omega
theorem rd_of_alike {q q' : Rat} {r : Nat} (h : RdE eps0 q' r) (h1 : ∀ f, isF f → (fv f ≤ q ↔ fv f ≤ q')) (h2 : ∀ f, isF f → (q ≤ fv f ↔ q' ≤ fv f))
  (h3 : ∀ B, -B ≤ q → q ≤ B → q' - q ≤ B * (eps0 / 2) ∧ q - q' ≤ B * (eps0 / 2)) : Rd q r := by
 refine ⟨h.notN, fun f a b c => h.ge f a b ((h1 f a).1 c), fun f a b c => h.le f a b ((h2 f a).1 c), fun f g a b c d => h.fin f g a b ((h1 f a).1 c) ((h2 g b).1 d), fun B a b c => ?_⟩
 obtain ⟨n1, n2⟩ := h3 B a b
 have hB : (0 : Rat) ≤ B := by grind
 have e0 : (0 : Rat) ≤ eps0 := by unfold eps0; grind
 have e1 : eps0 ≤ 1 / 2 := by unfold eps0; grind
 have hBe := Rat.mul_nonneg hB e0
 have hBe2 : B * eps0 * eps0 ≤ B * eps0 * (1 / 2) := Rat.mul_le_mul_of_nonneg_left e1 hBe
 have ee : eps = eps0 + eps0 := by unfold eps eps0; grind
 obtain ⟨m1, m2⟩ := h.near (B + B * (eps0 / 2)) (by grind) (by grind) c
 rw [ee]
 constructor <;> grind
theorem div_fin {x y : Nat} (hx : isF x) (hy : isF y) (h0 : uv y ≠ 0) : ∃ m n a b : Nat, m * 2 ^ a = unitsOf (rung x) ∧ n * 2 ^ b = unitsOf (rung y) ∧ m < 9007199254740992 ∧ 0 < n ∧
  fdiv x y = double.word (sgn x ^^ sgn y) (nrung ((2 * (m * 2 ^ (54 + n.log2 - m.log2) / n) + (m * 2 ^ (54 + n.log2 - m.log2) % n != 0).toNat) * 2 ^ (a + K)) (54 + n.log2 - m.log2 + 1 + b)) := by
 obtain ⟨m, a, h1, h2, hm⟩ := read_fin2 hx
 obtain ⟨n, b, h3, h4, hn⟩ := read_fin2 hy
 have hn0 : n ≠ 0 := fun e => by
  subst e
  rw [Nat.zero_mul] at h4
  unfold uv at h0
  rw [← h4] at h0
  split at h0 <;> exact h0 rfl
 refine ⟨m, n, a, b, h2, h4, hm, by omega, ?_⟩
 unfold fdiv Format.div
 have hq : Datum.quotient (double.fractionBits + 2) (.number (sgn x) m (-1074 + (a : Int))) (.number (sgn y) n (-1074 + (b : Int))) =
   some (.number (sgn x ^^ sgn y) (2 * (m <<< (54 + n.log2 - m.log2) / n) + (m <<< (54 + n.log2 - m.log2) % n != 0).toNat) (-1074 + (a : Int) - (-1074 + (b : Int)) - ((54 + n.log2 - m.log2 : Nat) : Int) - 1)) := by
  show (if n = 0 then _ else _) = _
  rw [if_neg hn0]
  rfl
 rw [h1, h3, hq]
 show double.nearest _ _ _ = _
 rw [Nat.shiftLeft_eq, ← nearest_word, ← Nat.shiftLeft_eq _ (a + K), nearest_scale]
 congr 1
 rw [K_eq]
 omega
theorem le_iff_mul {a b c : Rat} (hc : 0 < c) : a ≤ b ↔ a * c ≤ b * c :=
 ⟨fun h => Rat.mul_le_mul_of_nonneg_right h (Rat.le_of_lt hc), le_of_mul_le hc⟩
theorem div_cancel {a b : Rat} (h : 0 < b) : a / b * b = a := by
 have : b ≠ 0 := by grind
 grind
theorem div_pos {a b : Rat} (ha : 0 < a) (hb : 0 < b) : 0 < a / b := by
 rw [← Rat.not_le]
 intro h
 have := Rat.mul_le_mul_of_nonneg_right h (Rat.le_of_lt hb)
 rw [div_cancel hb] at this
 grind
def nq (n : Nat) : Rat := ((n : Int) : Rat)
theorem nq_mul (a b : Nat) : nq (a * b) = nq a * nq b := by unfold nq; rw [Int.natCast_mul, Rat.intCast_mul]
theorem nq_add (a b : Nat) : nq (a + b) = nq a + nq b := by unfold nq; rw [Int.natCast_add, Rat.intCast_add]
theorem nq_le {a b : Nat} : nq a ≤ nq b ↔ a ≤ b := by unfold nq; rw [Rat.intCast_le_intCast]; omega
theorem nq_nonneg (a : Nat) : 0 ≤ nq a := by
 have := (nq_le (a := 0) (b := a)).2 (Nat.zero_le _)
 exact this
theorem nq_pos {a : Nat} (h : 0 < a) : 0 < nq a := by
 unfold nq
 have : ((0 : Int) : Rat) < ((a : Int) : Rat) := Rat.intCast_lt_intCast.2 (by omega)
 simpa using this
theorem nq_U : nq (2 ^ K) = Uq := rfl
theorem nq_P2 (d : Nat) : nq (2 ^ d) = P2 d := rfl
def fa (x : Nat) : Rat := nq (unitsOf (rung x)) / Uq
theorem fv_fa (x : Nat) : fv x = if sgn x then -fa x else fa x := by
 unfold fv fa uv nq
 cases sgn x
 ·rfl
 ·simp only [if_true]
  rw [Rat.intCast_neg]
  have := Uq_ne
  grind
theorem fa_nonneg (x : Nat) : 0 ≤ fa x := by
 refine le_of_mul_le Uq_pos ?_
 have h := nq_nonneg (unitsOf (rung x))
 have := Uq_ne
 have e : fa x * Uq = nq (unitsOf (rung x)) := by unfold fa; grind
 rw [e]; grind
theorem quot_alike {ux uy κ S Q a uf : Nat} (hy : 0 < uy) (h1 : uf * uy ≤ ux * 2 ^ κ ↔ uf * 2 ^ S ≤ Q * 2 ^ (a + κ)) (h2 : ux * 2 ^ κ ≤ uf * uy ↔ Q * 2 ^ (a + κ) ≤ uf * 2 ^ S) :
  (nq uf / nq (2 ^ κ) ≤ nq ux / nq uy ↔ nq uf / nq (2 ^ κ) ≤ nq (Q * 2 ^ (a + κ)) / (nq (2 ^ S) * nq (2 ^ κ))) ∧ (nq ux / nq uy ≤ nq uf / nq (2 ^ κ) ↔ nq (Q * 2 ^ (a + κ)) / (nq (2 ^ S) * nq (2 ^ κ)) ≤ nq uf / nq (2 ^ κ)) := by
 have p1 := nq_pos (Nat.two_pow_pos κ)
 have p2 := nq_pos (Nat.two_pow_pos S)
 have p3 := nq_pos hy
 have c1 := Rat.mul_pos p1 p3
 have c2 := Rat.mul_pos p2 p1
 rw [le_iff_mul (a := nq uf / nq (2 ^ κ)) (b := nq ux / nq uy) c1, le_iff_mul (a := nq ux / nq uy) (b := nq uf / nq (2 ^ κ)) c1,
  le_iff_mul (a := nq uf / nq (2 ^ κ)) (b := nq (Q * 2 ^ (a + κ)) / (nq (2 ^ S) * nq (2 ^ κ))) c2, le_iff_mul (b := nq uf / nq (2 ^ κ)) (a := nq (Q * 2 ^ (a + κ)) / (nq (2 ^ S) * nq (2 ^ κ))) c2]
 have e1 : nq uf / nq (2 ^ κ) * (nq (2 ^ κ) * nq uy) = nq (uf * uy) := by rw [nq_mul]; grind
 have e2 : nq ux / nq uy * (nq (2 ^ κ) * nq uy) = nq (ux * 2 ^ κ) := by rw [nq_mul]; grind
 have e3 : nq uf / nq (2 ^ κ) * (nq (2 ^ S) * nq (2 ^ κ)) = nq (uf * 2 ^ S) := by rw [nq_mul]; grind
 have e4 : nq (Q * 2 ^ (a + κ)) / (nq (2 ^ S) * nq (2 ^ κ)) * (nq (2 ^ S) * nq (2 ^ κ)) = nq (Q * 2 ^ (a + κ)) := by grind
 rw [e1, e2, e3, e4, nq_le, nq_le, nq_le, nq_le]
 exact ⟨h1, h2⟩
theorem quot_near {m n a b more κ : Nat} (hn : 0 < n) (hD : 9007199254740992 * n ≤ m * 2 ^ more) :
  let q := nq (m * 2 ^ a) / nq (n * 2 ^ b)
  let q' := nq ((2 * (m * 2 ^ more / n) + (m * 2 ^ more % n != 0).toNat) * 2 ^ (a + κ)) / (nq (2 ^ (more + 1 + b)) * nq (2 ^ κ))
  q' - q ≤ q * (eps0 / 2) ∧ q - q' ≤ q * (eps0 / 2) := by
 intro q q'
 have p1 := nq_pos (Nat.two_pow_pos a)
 have p2 := nq_pos (Nat.two_pow_pos b)
 have p3 := nq_pos (Nat.two_pow_pos κ)
 have p4 := nq_pos (Nat.two_pow_pos more)
 have p5 := nq_pos hn
 have hq : q = nq m * nq (2 ^ a) / (nq n * nq (2 ^ b)) := by show nq _ / nq _ = _; rw [nq_mul, nq_mul]
 obtain ⟨Q, hQ⟩ : ∃ Q, Q = 2 * (m * 2 ^ more / n) + (m * 2 ^ more % n != 0).toNat := ⟨_, rfl⟩
 have hq' : q' = nq Q * nq (2 ^ a) / (2 * nq (2 ^ more) * nq (2 ^ b)) := by
  show nq _ / (nq _ * nq _) = _
  rw [← hQ, nq_mul, Nat.pow_add, Nat.pow_add, Nat.pow_add, nq_mul, nq_mul, nq_mul]
  have : nq (2 ^ 1) = 2 := rfl
  rw [this]
  grind
 -- Q n is 2 m 2^more up to n
 have hdm := Nat.div_add_mod (m * 2 ^ more) n
 have hml := Nat.mod_lt (m * 2 ^ more) hn
 have d1 : Q * n ≤ 2 * (m * 2 ^ more) + n := by
  rw [hQ, Nat.add_mul]
  have : 2 * (m * 2 ^ more / n) * n = 2 * (n * (m * 2 ^ more / n)) := by ac_rfl
  have : (m * 2 ^ more % n != 0).toNat * n ≤ n := by cases (m * 2 ^ more % n != 0) <;> simp
  omega
 have d2 : 2 * (m * 2 ^ more) ≤ Q * n + n := by
  rw [hQ, Nat.add_mul]
  have : 2 * (m * 2 ^ more / n) * n = 2 * (n * (m * 2 ^ more / n)) := by ac_rfl
  by_cases hr : m * 2 ^ more % n = 0
  ·omega
  ·have : (m * 2 ^ more % n != 0).toNat = 1 := by simp [hr]
   rw [this]; omega
 have r1 := nq_le.2 d1
 have r2 := nq_le.2 d2
 have r3 := nq_le.2 hD
 rw [nq_mul, nq_add, nq_mul, nq_mul] at r1
 rw [nq_mul, nq_add, nq_mul, nq_mul] at r2
 rw [nq_mul, nq_mul] at r3
 have k2 : nq 2 = 2 := rfl
 have k3 : nq 9007199254740992 = 9007199254740992 := rfl
 rw [k2] at r1 r2
 rw [k3] at r3
 have ee : 9007199254740992 * eps0 = 1 := by unfold eps0; grind
 have e0 : (0 : Rat) ≤ eps0 := by unfold eps0; grind
 have hc : (0 : Rat) < 2 * nq (2 ^ more) * nq (2 ^ b) * nq n := by
  have := Rat.mul_pos (Rat.mul_pos p4 p2) p5
  grind
 have f1 : q' * (2 * nq (2 ^ more) * nq (2 ^ b) * nq n) = nq Q * nq n * nq (2 ^ a) := by rw [hq']; grind
 have f2 : q * (2 * nq (2 ^ more) * nq (2 ^ b) * nq n) = 2 * (nq m * nq (2 ^ more)) * nq (2 ^ a) := by rw [hq]; grind
 have f3 : q * (eps0 / 2) * (2 * nq (2 ^ more) * nq (2 ^ b) * nq n) = (nq m * nq (2 ^ more) * eps0) * nq (2 ^ a) := by
  have : q * (eps0 / 2) * (2 * nq (2 ^ more) * nq (2 ^ b) * nq n) = q * (2 * nq (2 ^ more) * nq (2 ^ b) * nq n) * (eps0 / 2) := by grind
  rw [this, f2]; grind
 have r4 : nq n ≤ nq m * nq (2 ^ more) * eps0 := by
  have := Rat.mul_le_mul_of_nonneg_right r3 e0
  have e9 : 9007199254740992 * nq n * eps0 = nq n * (9007199254740992 * eps0) := by grind
  rw [e9, ee] at this
  grind
 have a0 := Rat.le_of_lt p1
 constructor
 ·refine le_of_mul_le hc ?_
  rw [f3, show (q' - q) * (2 * nq (2 ^ more) * nq (2 ^ b) * nq n) = (nq Q * nq n - 2 * (nq m * nq (2 ^ more))) * nq (2 ^ a) by
   have : (q' - q) * (2 * nq (2 ^ more) * nq (2 ^ b) * nq n) = q' * (2 * nq (2 ^ more) * nq (2 ^ b) * nq n) - q * (2 * nq (2 ^ more) * nq (2 ^ b) * nq n) := by grind
   rw [this, f1, f2]; grind]
  refine Rat.mul_le_mul_of_nonneg_right ?_ a0
  grind
 ·refine le_of_mul_le hc ?_
  rw [f3, show (q - q') * (2 * nq (2 ^ more) * nq (2 ^ b) * nq n) = (2 * (nq m * nq (2 ^ more)) - nq Q * nq n) * nq (2 ^ a) by
   have : (q - q') * (2 * nq (2 ^ more) * nq (2 ^ b) * nq n) = q * (2 * nq (2 ^ more) * nq (2 ^ b) * nq n) - q' * (2 * nq (2 ^ more) * nq (2 ^ b) * nq n) := by grind
   rw [this, f1, f2]; grind]
  refine Rat.mul_le_mul_of_nonneg_right ?_ a0
  grind
theorem fv_div (x y : Nat) : fv x / fv y = if sgn x ^^ sgn y then -(nq (unitsOf (rung x)) / nq (unitsOf (rung y))) else nq (unitsOf (rung x)) / nq (unitsOf (rung y)) := by
 have h1 : fa x / fa y = nq (unitsOf (rung x)) / nq (unitsOf (rung y)) := by
  unfold fa
  have hu := Uq_ne
  by_cases h : nq (unitsOf (rung y)) = 0
  ·rw [h]; grind
  ·grind
 rw [fv_fa x, fv_fa y, ← h1]
 cases sgn x <;> cases sgn y <;> simp <;> grind
theorem units_M {f : Nat} (hf : isF f) : ∃ M j, M < 9007199254740992 ∧ unitsOf (rung f) = M * 2 ^ j := by
 obtain ⟨m, j, _, h2, h3⟩ := read_fin2 hf
 exact ⟨m, j, h3, h2.symm⟩
theorem div_rd {x y : Nat} (hx : isF x) (hy : isF y) (h0 : uv y ≠ 0) : Rd (fv x / fv y) (fdiv x y) := by
 obtain ⟨m, n, a, b, hm, hn, hm53, hn0, hd⟩ := div_fin hx hy h0
 rw [hd, fv_div, ← hm, ← hn]
 generalize (sgn x ^^ sgn y) = s
 clear hd h0 hx hy
 by_cases hm0 : m = 0
 ·subst hm0
  have hQ : (2 * (0 * 2 ^ (54 + n.log2 - (0 : Nat).log2) / n) + (0 * 2 ^ (54 + n.log2 - (0 : Nat).log2) % n != 0).toNat) * 2 ^ (a + K) = 0 := by simp
  rw [hQ]
  refine (rd_word s _ _ ?_).rd
  unfold Exact
  have : nq (0 * 2 ^ a) = 0 := by rw [Nat.zero_mul]; rfl
  rw [this]
  cases s <;> simp <;> grind
 ·obtain ⟨more, hmore⟩ : ∃ k, k = 54 + n.log2 - m.log2 := ⟨_, rfl⟩
  rw [← hmore]
  have hlm : m.log2 < 53 := (Nat.log2_lt hm0).2 hm53
  have hD : 9007199254740992 * n ≤ m * 2 ^ more := by
   have h1 : 2 ^ m.log2 ≤ m := Nat.log2_self_le hm0
   have h2 : n < 2 ^ (n.log2 + 1) := Nat.lt_log2_self
   have h3 : 2 ^ (m.log2 + more) = 9007199254740992 * 2 ^ (n.log2 + 1) := by
    rw [hmore, show m.log2 + (54 + n.log2 - m.log2) = 53 + (n.log2 + 1) by omega, Nat.pow_add]
   have h4 : 2 ^ m.log2 * 2 ^ more ≤ m * 2 ^ more := Nat.mul_le_mul_right _ h1
   rw [← Nat.pow_add, h3] at h4
   have h5 : 9007199254740992 * n ≤ 9007199254740992 * 2 ^ (n.log2 + 1) := Nat.mul_le_mul_left _ (Nat.le_of_lt h2)
   exact Nat.le_trans h5 h4
  clear hmore hlm
  obtain ⟨Q, hQ⟩ : ∃ Q, Q = 2 * (m * 2 ^ more / n) + (m * 2 ^ more % n != 0).toNat := ⟨_, rfl⟩
  have hnear := quot_near (a := a) (b := b) (κ := K) hn0 hD
  have hcmp : ∀ f, isF f → (fa f ≤ nq (m * 2 ^ a) / nq (n * 2 ^ b) ↔ fa f ≤ nq (Q * 2 ^ (a + K)) / (nq (2 ^ (more + 1 + b)) * nq (2 ^ K))) ∧ (nq (m * 2 ^ a) / nq (n * 2 ^ b) ≤ fa f ↔ nq (Q * 2 ^ (a + K)) / (nq (2 ^ (more + 1 + b)) * nq (2 ^ K)) ≤ fa f) := fun f hf => by
   obtain ⟨M, j, hM, hMj⟩ := units_M hf
   have := quot_cmp (κ := K) (a := a) (b := b) (S := more + 1 + b) (M := M) (j := j) hM hn0 hD rfl
   obtain ⟨t1, t2⟩ := this
   rw [← hQ] at t1 t2
   unfold fa
   rw [← nq_U, hMj]
   refine quot_alike (Nat.mul_pos hn0 (Nat.two_pow_pos _)) ?_ ?_
   ·rw [t1, Nat.mul_assoc, ← Nat.pow_add]
   ·rw [t2, Nat.mul_assoc, ← Nat.pow_add]
  have hqpos : 0 < nq (m * 2 ^ a) / nq (n * 2 ^ b) := div_pos (nq_pos (Nat.mul_pos (by omega) (Nat.two_pow_pos _))) (nq_pos (Nat.mul_pos hn0 (Nat.two_pow_pos _)))
  have hQpos : 0 < Q := by
   have : 9007199254740992 ≤ m * 2 ^ more / n := by rw [Nat.le_div_iff_mul_le hn0]; exact hD
   omega
  have hqpos' : 0 < nq (Q * 2 ^ (a + K)) / (nq (2 ^ (more + 1 + b)) * nq (2 ^ K)) := div_pos (nq_pos (Nat.mul_pos hQpos (Nat.two_pow_pos _))) (Rat.mul_pos (nq_pos (Nat.two_pow_pos _)) (nq_pos (Nat.two_pow_pos _)))
  rw [← hQ] at hnear ⊢
  have hex : nq (Q * 2 ^ (a + K)) / (nq (2 ^ (more + 1 + b)) * nq (2 ^ K)) * (P2 (more + 1 + b) * Uq) = nq (Q * 2 ^ (a + K)) := by
   rw [nq_P2, nq_U]
   exact div_cancel (Rat.mul_pos (P2_pos _) Uq_pos)
  obtain ⟨near1, near2⟩ := hnear
  generalize nq (m * 2 ^ a) / nq (n * 2 ^ b) = q at *
  generalize nq (Q * 2 ^ (a + K)) / (nq (2 ^ (more + 1 + b)) * nq (2 ^ K)) = q' at *
  have hr : RdE eps0 (if s then -q' else q') (double.word s (nrung (Q * 2 ^ (a + K)) (more + 1 + b))) := by
   refine rd_word s _ _ ?_
   unfold Exact
   cases s
   ·simp only [Bool.false_eq_true, if_false]; exact hex
   ·simp only [if_true]; rw [Rat.intCast_neg]
    have e : ((Q * 2 ^ (a + K) : Nat) : Int) = ((Q * 2 ^ (a + K) : Nat) : Int) := rfl
    have : -q' * (P2 (more + 1 + b) * Uq) = -(q' * (P2 (more + 1 + b) * Uq)) := by grind
    rw [this, hex]; rfl
  have e0 : (0 : Rat) ≤ eps0 / 2 := by unfold eps0; grind
  refine rd_of_alike hr (fun f hf => ?_) (fun f hf => ?_) (fun B hB1 hB2 => ?_)
  ·have h1 := hcmp f hf
   have h2 := fv_fa f
   have h3 := fa_nonneg f
   cases s <;> cases hs : sgn f <;> simp only [hs, Bool.false_eq_true, if_false, if_true] at * <;> grind
  ·have h1 := hcmp f hf
   have h2 := fv_fa f
   have h3 := fa_nonneg f
   cases s <;> cases hs : sgn f <;> simp only [hs, Bool.false_eq_true, if_false, if_true] at * <;> grind
  ·cases s
   ·simp only [Bool.false_eq_true, if_false] at *
    have := Rat.mul_le_mul_of_nonneg_right hB2 e0
    grind
   ·simp only [if_true] at *
    have : q ≤ B := by grind
    have := Rat.mul_le_mul_of_nonneg_right this e0
    grind
end Go.Fl
namespace Go.Fl
open Ieee
def w1 : Nat := 4607182418800017408
def pinf : Nat := 9218868437227405312
def ninf : Nat := 18442240474082181120
theorem w1_eq : w1 = wz 1 := by decide +kernel
theorem fv_one : isF w1 ∧ fv w1 = 1 := by
 have h := fv_wz (z := 1) (by decide)
 rw [← w1_eq] at h
 exact h
theorem isF_of_pl {x a b : Nat} (hx : isN x = false) (ha : isF a) (hb : isF b) (h1 : pl a ≤ pl x) (h2 : pl x ≤ pl b) : isF x := by
 rw [pl_fin ha] at h1
 rw [pl_fin hb] at h2
 unfold pl at h1 h2
 rw [hx] at h1 h2
 simp only [Bool.false_eq_true, if_false] at h1 h2
 unfold isF at *
 cases e1 : sgn x <;> cases e2 : sgn a <;> cases e3 : sgn b <;> simp only [e1, e2, e3, Bool.false_eq_true, if_false, if_true] at h1 h2 <;> omega
end Go.Fl
