/- Logarithms: a number above zero as a significand near one times a power of two; the series; of classes. -/
import Derived.Test.YtmmfjknnbkcniaaGreatFlExp
namespace Go.Fl
open Ieee

def cHalf : Nat := 4604544271217802189
def cTwo : Nat := 4611686018427387904

/-- Twice a word. -/
def dbl (x : Nat) : Nat := if x < 4503599627370496 then 2 * x else x + 4503599627370496
/-- Half a normal word. -/
def hlf (x : Nat) : Nat := x - 4503599627370496

theorem units_dbl (x : Nat) : unitsOf (dbl x) = 2 * unitsOf x := by
  unfold dbl
  by_cases h : x < 4503599627370496
  · rw [if_pos h]
    have e1 : unitsOf x = x := by unfold unitsOf; rw [if_pos h]
    rw [e1]
    unfold unitsOf
    by_cases h2 : 2 * x < 4503599627370496
    · rw [if_pos h2]
    · rw [if_neg h2, show 2 * x / 4503599627370496 - 1 = 0 by omega, Nat.pow_zero]; omega
  · rw [if_neg h]
    unfold unitsOf
    rw [if_neg (by omega), if_neg h, show (x + 4503599627370496) % 4503599627370496 = x % 4503599627370496 by omega, show (x + 4503599627370496) / 4503599627370496 - 1 = (x / 4503599627370496 - 1) + 1 by omega, Nat.pow_succ]
    generalize 2 ^ (x / 4503599627370496 - 1) = g
    rw [← Nat.mul_assoc, Nat.mul_comm]
theorem units_hlf {x : Nat} (h : 9007199254740992 ≤ x) : 2 * unitsOf (hlf x) = unitsOf x := by
  rw [← units_dbl]
  unfold dbl hlf
  rw [if_neg (by omega)]
  congr 1
  omega

theorem nearest_small {r : Nat} (h : r < 9218868437227405312) : double.nearest false (unitsOf r) (-1074) = r := by
  rw [nearest_units false h, word_eq]; rfl

theorem units_two : unitsOf cTwo = 2 * 2 ^ K := by
  have h := (fv_wz (z := 2) (by decide)).2
  have e : cTwo = wz 2 := by decide +kernel
  have hw := (wz_read (z := 2) (by decide)).2.1
  rw [← e] at hw
  have hu : uv cTwo = (unitsOf cTwo : Int) := by unfold uv; rw [sgn_small (by decide), rung_small (by decide)]; rfl
  rw [hu] at hw
  have : ((U : Nat) : Int) = ((2 ^ K : Nat) : Int) := rfl
  rw [this] at hw
  generalize 2 ^ K = g at *
  omega

theorem fmul_two {x : Nat} (h : dbl x < 9218868437227405312) (hx : x < 9218868437227405312) : fmul x cTwo = dbl x := by
  rw [mul_fin (isF_small hx) (isF_small (by decide)), sgn_small (by omega), sgn_small (by decide), rung_small (by omega), rung_small (by decide), ← nearest_word, units_two]
  have e : unitsOf x * (2 * 2 ^ K) = unitsOf (dbl x) <<< K := by
    rw [units_dbl, Nat.shiftLeft_eq]
    generalize 2 ^ K = g
    ac_rfl
  rw [e, nearest_scale, show (-1074 - (K : Int) + (K : Int)) = -1074 by omega]
  exact nearest_small h

theorem fv_small {x : Nat} (h : x < 9218868437227405312) : fv x = nq (unitsOf x) / Uq := by
  rw [fv_fa, sgn_small (by omega)]; unfold fa; rw [rung_small (by omega)]; rfl

theorem fdiv_two {x : Nat} (h : 9007199254740992 ≤ x) (hx : x < 9218868437227405312) : fdiv x cTwo = hlf x := by
  have f2 : isF cTwo := isF_small (by decide)
  have fx := isF_small hx
  have e2 : cTwo = wz 2 := by decide +kernel
  have v2 : fv cTwo = 2 := by rw [e2]; exact (fv_wz (z := 2) (by decide)).2
  have u2 : uv cTwo ≠ 0 := fun h => by
    have : fv cTwo = 0 := by unfold fv; rw [h]; grind
    grind
  have hd := div_rd fx f2 u2
  rw [v2] at hd
  have hh : hlf x < 9218868437227405312 := by unfold hlf; omega
  have fh := isF_small hh
  have hv : fv (hlf x) = fv x / 2 := by
    rw [fv_small hh, fv_small hx, ← units_hlf h, nq_mul]
    have : nq 2 = 2 := rfl
    rw [this]; grind
  have fr : isF (fdiv x cTwo) := hd.fin _ _ fh fh (by rw [hv]; exact Rat.le_refl) (by rw [hv]; exact Rat.le_refl)
  have a := hd.ge _ fh fr (by rw [hv]; exact Rat.le_refl)
  have b := hd.le _ fh fr (by rw [hv]; exact Rat.le_refl)
  have huv : uv (fdiv x cTwo) = uv (hlf x) := Int.le_antisymm (fv_le.1 b) (fv_le.1 a)
  obtain ⟨m, n, p, q, _, _, _, _, hw⟩ := div_fin fx f2 u2
  rw [sgn_small (x := x) (by omega), sgn_small (x := cTwo) (by decide)] at hw
  generalize (2 * (m * 2 ^ (54 + n.log2 - m.log2) / n) + (m * 2 ^ (54 + n.log2 - m.log2) % n != 0).toNat) * 2 ^ (p + K) = A at hw
  generalize 54 + n.log2 - m.log2 + 1 + q = D at hw
  have ht := nrung_top A D
  have hw2 : fdiv x cTwo = nrung A D := by rw [hw, word_eq]; rfl
  rw [hw2] at fr huv ⊢
  have h1 : uv (nrung A D) = (unitsOf (nrung A D) : Int) := by unfold uv; rw [sgn_small (by omega), rung_small (by omega)]; rfl
  have h2 : uv (hlf x) = (unitsOf (hlf x) : Int) := by unfold uv; rw [sgn_small (by omega), rung_small (by omega)]; rfl
  rw [h1, h2] at huv
  exact unitsOf_inj (by omega)

/-- x is m times 2^e, m from half to twice half. -/
def LP (x m : Nat) (e : Int) : Prop := cHalf ≤ m ∧ m < dbl cHalf ∧ ∃ c d : Nat, unitsOf m * 2 ^ d = unitsOf x * 2 ^ c ∧ e = (d : Int) - (c : Int)

theorem lp_one {x m m' : Nat} {e e' : Int} (h : LP x m e) (h' : LP x m' e') : m = m' ∧ e = e' := by
  obtain ⟨a1, a2, c, d, hcd, rfl⟩ := h
  obtain ⟨b1, b2, c', d', hcd', rfl⟩ := h'
  have key : unitsOf m * 2 ^ (d + c') = unitsOf m' * 2 ^ (d' + c) := by
    rw [Nat.pow_add, Nat.pow_add, ← Nat.mul_assoc, ← Nat.mul_assoc, hcd, hcd']
    generalize 2 ^ c = p
    generalize 2 ^ c' = q
    ac_rfl
  have far : ∀ {m m' k l : Nat}, cHalf ≤ m → m' < dbl cHalf → unitsOf m * 2 ^ k = unitsOf m' * 2 ^ l → l < k → False := fun {m m' k l} h1 h2 h3 h4 => by
    have e1 : 2 ^ k = 2 ^ (k - l - 1) * 2 * 2 ^ l := by rw [← Nat.pow_succ, ← Nat.pow_add]; congr 1; omega
    have hp := Nat.two_pow_pos l
    have hp2 := Nat.two_pow_pos (k - l - 1)
    rw [e1, ← Nat.mul_assoc] at h3
    have h5 := Nat.eq_of_mul_eq_mul_right hp h3
    have u1 := unitsOf_le h1
    have u2 := unitsOf_lt h2
    rw [units_dbl] at u2
    have : unitsOf m * 2 ≤ unitsOf m * (2 ^ (k - l - 1) * 2) := Nat.mul_le_mul_left _ (by omega)
    omega
  have hd : d + c' = d' + c := by
    rcases Nat.lt_trichotomy (d + c') (d' + c) with h | h | h
    · exact (far b1 a2 key.symm h).elim
    · exact h
    · exact (far a1 b2 key h).elim
  rw [hd] at key
  have := Nat.eq_of_mul_eq_mul_right (Nat.two_pow_pos _) key
  exact ⟨unitsOf_inj this, by omega⟩

/-- The series' inner sum after j steps. -/
def serP (z : Nat) : Nat → Nat
  | 0 => 0
  | j + 1 => fmul z (fadd (fdiv w1 (wz (2 * (12 - (j : Int)) + 1))) (serP z j))
def lnS0 (m : Nat) : Nat := fdiv (fsub m w1) (fadd cTwo (fsub m w1))
/-- The series of a significand. -/
def lnSer (m : Nat) : Nat := fadd (fmul cTwo (lnS0 m)) (fmul (fmul cTwo (lnS0 m)) (serP (fmul (lnS0 m) (lnS0 m)) 12))

def lnV (m : Nat) (e : Int) : Nat := fadd (fmul (wz e) cHi) (fadd (lnSer m) (fmul (wz e) cLo))
def log2V (m : Nat) (e : Int) : Nat := fadd (wz e) (fmul (lnSer m) cL)

/-- What the logarithms answer where there is no series. -/
def lnEdge (x : Nat) : Option Nat := if isN x = true then some nanc else if (ford x 0 == some .lt) = true then some nanc else if (ford x 0 == some .eq) = true then some ninf else if (ford x pinf == some .eq) = true then some pinf else none

theorem lnEdge_none {x : Nat} (h : lnEdge x = none) (h64 : x < 18446744073709551616) : 0 < x ∧ x < 9218868437227405312 := by
  unfold lnEdge at h
  split at h
  · cases h
  rename_i h1
  split at h
  · cases h
  rename_i h2
  split at h
  · cases h
  rename_i h3
  split at h
  · cases h
  rename_i h4
  have hx : isN x = false := by simpa using h1
  have n0 : isN 0 = false := by decide +kernel
  have np : isN pinf = false := by decide +kernel
  rw [ford_pl hx n0] at h2 h3
  rw [ford_pl hx np] at h4
  have p0 : pl 0 = 0 := by decide +kernel
  have pp : pl pinf = 9218868437227405312 := by decide +kernel
  rw [p0] at h2 h3
  rw [pp] at h4
  have b := pl_notN hx
  have kc : ∀ z : Int, compare z z = .eq := fun z => Std.ReflCmp.compare_self
  have g1 : 0 < pl x := by
    rcases Int.lt_trichotomy (pl x) 0 with g | g | g
    · rw [Std.compare_eq_lt.2 g] at h2; simp at h2
    · rw [g, kc] at h3; simp at h3
    · exact g
  have g2 : pl x ≠ 9218868437227405312 := fun g => by rw [g, kc] at h4; simp at h4
  unfold pl at g1 g2 b
  rw [hx] at g1 g2 b
  simp only [Bool.false_eq_true, if_false] at g1 g2 b
  have hr : rung x = x % 9223372036854775808 := rfl
  cases hs : sgn x
  · rw [hs] at g1 g2 b
    simp only [Bool.false_eq_true, if_false] at g1 g2 b
    unfold sgn at hs
    simp at hs
    omega
  · rw [hs] at g1
    simp only [if_true] at g1
    omega

/-- A subnormal number times 2^54. -/
theorem sub_scale {x : Nat} (h0 : 0 < x) (h1 : x < 4503599627370496) : ∃ E low, fmul x 4850376798678024192 = E * 4503599627370496 + low ∧ low < 4503599627370496 ∧ 3 ≤ E ∧ E ≤ 54 ∧ unitsOf (E * 4503599627370496 + low) = x * 2 ^ 54 := by
  have hx0 : x ≠ 0 := by omega
  obtain ⟨L, hL⟩ : ∃ L, L = x.log2 := ⟨_, rfl⟩
  have l1 : 2 ^ L ≤ x := by rw [hL]; exact Nat.log2_self_le hx0
  have l2 : x < 2 ^ (L + 1) := by rw [hL]; exact Nat.lt_log2_self
  have l3 : L < 52 := by rw [hL]; exact (Nat.log2_lt hx0).2 h1
  have e52 : (2 : Nat) ^ 52 = 4503599627370496 := by decide
  have p1 : 2 ^ L * 2 ^ (52 - L) = 4503599627370496 := by rw [← Nat.pow_add, show L + (52 - L) = 52 by omega]
  have p2 : 2 ^ (L + 1) * 2 ^ (52 - L) = 9007199254740992 := by rw [← Nat.pow_add, show L + 1 + (52 - L) = 53 by omega]
  have hp := Nat.two_pow_pos (52 - L)
  have m1 : 2 ^ L * 2 ^ (52 - L) ≤ x * 2 ^ (52 - L) := Nat.mul_le_mul_right _ l1
  have m2 : x * 2 ^ (52 - L) < 2 ^ (L + 1) * 2 ^ (52 - L) := Nat.mul_lt_mul_of_pos_right l2 hp
  rw [p1] at m1
  rw [p2] at m2
  obtain ⟨low, hlow⟩ : ∃ low, x * 2 ^ (52 - L) = 4503599627370496 + low := ⟨x * 2 ^ (52 - L) - 4503599627370496, by omega⟩
  have hl : low < 4503599627370496 := by omega
  have hu : unitsOf x = x := by unfold unitsOf; rw [if_pos h1]
  obtain ⟨J, hJ⟩ : ∃ J : Nat, J = 1077 := ⟨_, rfl⟩
  have hub := units_norm (E := J) (low := 0) (by omega) (by omega)
  have hJB : 4850376798678024192 = J * 4503599627370496 := by omega
  rw [Nat.add_zero, Nat.add_zero, ← hJB] at hub
  have hplace : -1074 - (K : Int) + ((52 + (J - 1) : Nat) : Int) = -1020 := by rw [K_eq]; omega
  have hplace2 : ((3 + L : Nat) : Int) - 1075 + ((52 - L : Nat) : Int) = -1020 := by omega
  clear hJ hJB
  generalize J - 1 = T at *
  have hmul : fmul x 4850376798678024192 = scW (4503599627370496 + low) ((3 + L : Nat) : Int) := by
    rw [mul_fin (isF_small (by omega)) (isF_small (by decide)), sgn_small (by omega), sgn_small (by decide), rung_small (by omega), rung_small (by decide), ← nearest_word, hu, hub]
    have e1 : x * (4503599627370496 * 2 ^ T) = x <<< (52 + T) := by
      rw [Nat.shiftLeft_eq, Nat.pow_add, e52]
    rw [e1, nearest_scale, hplace]
    unfold scW
    rw [← hlow, ← Nat.shiftLeft_eq, nearest_scale, hplace2]
    rfl
  clear hub hu
  refine ⟨3 + L, low, ?_, hl, by omega, by omega, ?_⟩
  · rw [hmul, scW_norm hl rfl (by omega) (by omega)]
  · rw [units_norm (by omega) hl, ← hlow, Nat.mul_assoc, ← Nat.pow_add]
    congr 2
    omega

theorem cn_small {x : Nat} (h : x < 9218868437227405312) : cn x = x := cn_of_notN (isF_notN (isF_small h))
/-- Two words above zero stand as they read. -/
theorem ford_small {x y : Nat} (hx : x ≤ 9218868437227405311) (hy : y ≤ 9218868437227405311) : ford x y = some (compare (x : Int) (y : Int)) := by
  have nx := isF_notN (isF_small (x := x) (by omega))
  have ny := isF_notN (isF_small (x := y) (by omega))
  rw [ford_pl nx ny]
  unfold pl
  rw [nx, ny, sgn_small (by omega), sgn_small (by omega), rung_small (by omega), rung_small (by omega)]
  rfl
theorem flt_small {x y : Nat} (hx : x ≤ 9218868437227405311) (hy : y ≤ 9218868437227405311) : (ford x y == some .lt) = decide (x < y) := by
  rw [ford_small hx hy]
  have kc : ∀ z : Int, compare z z = .eq := fun z => Std.ReflCmp.compare_self
  rcases Nat.lt_trichotomy x y with h | h | h
  · rw [Std.compare_eq_lt.2 (show (x : Int) < y by omega)]; simp [h]
  · subst h; rw [kc]; simp
  · rw [Std.compare_eq_gt.2 (show (y : Int) < x by omega)]; simp; omega
theorem fge_small {x y : Nat} (hx : x ≤ 9218868437227405311) (hy : y ≤ 9218868437227405311) : (ford x y == some .gt || ford x y == some .eq) = decide (y ≤ x) := by
  rw [ford_small hx hy]
  have kc : ∀ z : Int, compare z z = .eq := fun z => Std.ReflCmp.compare_self
  rcases Nat.lt_trichotomy x y with h | h | h
  · rw [Std.compare_eq_lt.2 (show (x : Int) < y by omega)]; simp; omega
  · subst h; rw [kc]; simp
  · rw [Std.compare_eq_gt.2 (show (y : Int) < x by omega)]; simp; omega

theorem dbl_half : dbl cHalf = 4609047870845172685 := by decide
theorem two_half : fmul cTwo cHalf = 4609047870845172685 := by decide +kernel

/-- The parts of a normal word. -/
theorem lp_norm {x Y E low c : Nat} (hY : Y = E * 4503599627370496 + low) (hl : low < 4503599627370496) (h1 : 1 ≤ E) (hu : unitsOf Y = unitsOf x * 2 ^ c) :
    (1023 * 4503599627370496 + low < dbl cHalf → LP x (1023 * 4503599627370496 + low) ((E : Int) - 1023 - c)) ∧ (dbl cHalf ≤ 1023 * 4503599627370496 + low → LP x (hlf (1023 * 4503599627370496 + low)) ((E : Int) - 1023 - c + 1)) := by
  obtain ⟨J, hJ⟩ : ∃ J : Nat, J = 1023 := ⟨_, rfl⟩
  have u0 := units_norm (E := J) (low := low) (by omega) hl
  have uY := units_norm (E := E) (low := low) h1 hl
  rw [← hY, hu] at uY
  have hd : cHalf = 4604544271217802189 := rfl
  have e1 : (E : Int) - 1023 - c = ((E - 1 : Nat) : Int) - ((c + (J - 1) : Nat) : Int) := by omega
  have e2 : (E : Int) - 1023 - c + 1 = ((E : Nat) : Int) - ((c + (J - 1) : Nat) : Int) := by omega
  have hJ0 : 1023 * 4503599627370496 + low = J * 4503599627370496 + low := by rw [hJ]
  rw [← hJ0] at u0
  clear hJ0 hJ
  generalize J - 1 = T at *
  have key : unitsOf (1023 * 4503599627370496 + low) * 2 ^ (E - 1) = unitsOf x * 2 ^ (c + T) := by
    rw [u0, Nat.pow_add, ← Nat.mul_assoc, uY]
    generalize 2 ^ (E - 1) = p
    generalize 2 ^ T = q
    ac_rfl
  clear u0 uY
  constructor
  · intro h
    exact ⟨by omega, h, c + T, E - 1, key, e1⟩
  · intro h
    rw [dbl_half] at h
    refine ⟨by unfold hlf; omega, by rw [dbl_half]; unfold hlf; omega, c + T, E, ?_, e2⟩
    have hpe : 2 ^ E = 2 * 2 ^ (E - 1) := by
      clear key e1 e2 hu hd hY h
      rw [← Nat.pow_succ']; congr 1; omega
    have h3 : 9007199254740992 ≤ 1023 * 4503599627370496 + low := by omega
    have h2 := units_hlf h3
    rw [← key, ← h2, hpe]
    generalize unitsOf (hlf (1023 * 4503599627370496 + low)) = q
    generalize 2 ^ (E - 1) = p
    ac_rfl

end Go.Fl
