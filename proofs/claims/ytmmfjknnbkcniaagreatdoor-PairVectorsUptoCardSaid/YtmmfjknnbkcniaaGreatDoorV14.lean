/- Remainders, in plain: numbers of least units that a float holds exactly; a remainder is such a number; the places of Frexp and Ldexp. Frexp, Ldexp, Copysign: the places of a number above zero. -/
import Derived.Test.YtmmfjknnbkcniaaGreatDoorV13
import Derived.Test.YtmmfjknnbkcniaaGreatDoorV12
set_option maxHeartbeats 64000000
set_option maxRecDepth 100000
namespace Go.Fl
open Ieee
def Rp (n : Nat) : Prop := ∃ r, r < 9218868437227405312 ∧ unitsOf r = n
def TopE : Nat := 2098
theorem TopE_eq : TopE = 2098 := rfl
theorem units_parts {r : Nat} (h : r < 9218868437227405312) : ∃ m t, m < 9007199254740992 ∧ t ≤ 2045 ∧ unitsOf r = m * 2 ^ t := by
 unfold unitsOf
 by_cases h1 : r < 4503599627370496
 ·exact ⟨r, 0, by omega, by omega, by rw [if_pos h1, Nat.pow_zero, Nat.mul_one]⟩
 ·exact ⟨4503599627370496 + r % 4503599627370496, r / 4503599627370496 - 1, by omega, by omega, by rw [if_neg h1]⟩
theorem pow53 : (2 : Nat) ^ 53 = 9007199254740992 := by decide
theorem rp_parts {n : Nat} (h : Rp n) : ∃ m t, m < 9007199254740992 ∧ t ≤ 2045 ∧ n = m * 2 ^ t := by
 obtain ⟨r, h1, rfl⟩ := h
 exact units_parts h1
theorem rp_lt {n : Nat} (h : Rp n) : n < 2 ^ TopE := by
 obtain ⟨m, t, h1, h2, rfl⟩ := rp_parts h
 have hp := Nat.two_pow_pos t
 have a : m * 2 ^ t < 9007199254740992 * 2 ^ t := Nat.mul_lt_mul_of_pos_right h1 hp
 rw [← pow53, ← Nat.pow_add] at a
 exact Nat.lt_of_lt_of_le a (Nat.pow_le_pow_right (by omega) (by rw [TopE_eq]; omega))
theorem rp_mk {m t n : Nat} (hm : m ≤ 9007199254740992) (hle : m * 2 ^ t ≤ n) (hn : Rp n) : Rp (m * 2 ^ t) :=
 rung_of TopE_eq m t hm (Nat.lt_of_le_of_lt hle (rp_lt hn))
theorem rp_mod {a b : Nat} (ha : Rp a) (hb : Rp b) (h0 : 0 < b) : Rp (a % b) := by
 have hle := Nat.mod_le a b
 have hlt := Nat.mod_lt a h0
 obtain ⟨m, s, m1, _, em⟩ := rp_parts ha
 obtain ⟨n, t, n1, _, en⟩ := rp_parts hb
 by_cases hst : s ≤ t
 ·obtain ⟨d, rfl⟩ := Nat.exists_eq_add_of_le hst
  have e : a % b = (m % (n * 2 ^ d)) * 2 ^ s := by
   rw [em, en, show n * 2 ^ (s + d) = n * 2 ^ d * 2 ^ s by rw [Nat.pow_add]; ac_rfl, Nat.mul_mod_mul_right]
  have hm := Nat.mod_le m (n * 2 ^ d)
  rw [e]
  exact rp_mk (by omega) (by rw [← e]; exact hle) ha
 ·obtain ⟨d, rfl⟩ := Nat.exists_eq_add_of_le (Nat.le_of_not_le hst)
  have e : a % b = (m * 2 ^ d % n) * 2 ^ t := by
   rw [em, en, show m * 2 ^ (t + d) = m * 2 ^ d * 2 ^ t by rw [Nat.pow_add]; ac_rfl, Nat.mul_mod_mul_right]
  have hn0 : 0 < n := by
   rcases Nat.eq_zero_or_pos n with h | h
   ·subst h; omega
   ·exact h
  have hm := Nat.mod_lt (m * 2 ^ d) hn0
  rw [e]
  exact rp_mk (by omega) (by rw [← e]; exact hle) ha
theorem rp_down {a e : Nat} (h : Rp (a * 2 ^ e)) : Rp a := by
 obtain ⟨m, t, m1, _, em⟩ := rp_parts h
 have hle : a ≤ a * 2 ^ e := Nat.le_mul_of_pos_right _ (Nat.two_pow_pos e)
 by_cases he : e ≤ t
 ·obtain ⟨d, rfl⟩ := Nat.exists_eq_add_of_le he
  have e1 : a = m * 2 ^ d := by
   refine Nat.eq_of_mul_eq_mul_right (Nat.two_pow_pos e) ?_
   rw [em, Nat.pow_add]; ac_rfl
  have := rp_mk (m := m) (t := d) (n := a * 2 ^ (e + d - d)) (by omega) (by rw [← e1, Nat.add_sub_cancel]; exact hle) (by rw [Nat.add_sub_cancel, em]; rw [em] at h; exact h)
  rw [e1]
  exact this
 ·obtain ⟨d, rfl⟩ := Nat.exists_eq_add_of_le (Nat.le_of_not_le he)
  have e1 : a * 2 ^ d = m := by
   refine Nat.eq_of_mul_eq_mul_right (Nat.two_pow_pos t) ?_
   rw [← em, Nat.pow_add]; ac_rfl
  have h2 : a ≤ a * 2 ^ d := Nat.le_mul_of_pos_right _ (Nat.two_pow_pos d)
  have := rp_mk (m := a) (t := 0) (n := a * 2 ^ (t + d)) (by omega) (by simpa using hle) h
  simpa using this
theorem rp_scale {y k n : Nat} (hy : Rp y) (hle : y * 2 ^ k ≤ n) (hn : Rp n) : Rp (y * 2 ^ k) := by
 obtain ⟨m, t, m1, _, em⟩ := rp_parts hy
 have e : y * 2 ^ k = m * 2 ^ (t + k) := by rw [em, Nat.pow_add]; ac_rfl
 rw [e] at hle ⊢
 exact rp_mk (by omega) hle hn
def FX (u low L : Nat) : Prop := low < 4503599627370496 ∧ u * 4503599627370496 = (4503599627370496 + low) * 2 ^ L
theorem fx_norm {E low r : Nat} (hE : 1 ≤ E) (hl : low < 4503599627370496) (hr : r = E * 4503599627370496 + low) : FX (unitsOf r) low (E + 51) := by
 refine ⟨hl, ?_⟩
 have e52 : (4503599627370496 : Nat) = 2 ^ 52 := by decide
 rw [hr, units_norm hE hl, show E + 51 = (E - 1) + 52 by omega, Nat.pow_add, ← e52, Nat.mul_assoc]
theorem fx_sub {E low r : Nat} (hE : 1 ≤ E) (hl : low < 4503599627370496) (hu : unitsOf (E * 4503599627370496 + low) = unitsOf r * 4503599627370496) : FX (unitsOf r) low (E - 1) := by
 refine ⟨hl, ?_⟩
 rw [← hu, units_norm hE hl]
theorem fx_step {X Y lx LX ly LY : Nat} (hx : FX X lx LX) (hy : FX Y ly LY) (h : Y ≤ X) : ∃ k, LX = LY + k + (decide (lx < ly)).toNat ∧ Y * 2 ^ k ≤ X ∧ X < Y * 2 ^ (k + 1) := by
 obtain ⟨a1, a2⟩ := hx
 obtain ⟨b1, b2⟩ := hy
 have hm : Y * 4503599627370496 ≤ X * 4503599627370496 := Nat.mul_le_mul_right _ h
 rw [a2, b2] at hm
 have hle : LY ≤ LX := by
  refine Nat.le_of_not_lt fun hlt => ?_
  obtain ⟨d, rfl⟩ := Nat.exists_eq_add_of_lt hlt
  rw [show LX + d + 1 = (d + 1) + LX by omega, Nat.pow_add, ← Nat.mul_assoc] at hm
  have h1 := Nat.le_of_mul_le_mul_right hm (Nat.two_pow_pos LX)
  have h2 : (4503599627370496 + ly) * 2 ≤ (4503599627370496 + ly) * 2 ^ (d + 1) := Nat.mul_le_mul_left _ (by rw [Nat.pow_succ]; have := Nat.two_pow_pos d; omega)
  omega
 obtain ⟨K0, rfl⟩ := Nat.exists_eq_add_of_le hle
 rw [show LY + K0 = K0 + LY by omega, Nat.pow_add, ← Nat.mul_assoc] at hm
 have hm2 := Nat.le_of_mul_le_mul_right hm (Nat.two_pow_pos LY)
 have hpow : ∀ A B : Nat, A * 2 ^ LY * 4503599627370496 = A * 4503599627370496 * 2 ^ LY := fun A B => by ac_rfl
 have eX : X * 4503599627370496 = (4503599627370496 + lx) * 2 ^ K0 * 2 ^ LY := by rw [a2, show LY + K0 = K0 + LY by omega, Nat.pow_add]; ac_rfl
 have eY : ∀ k, Y * 2 ^ k * 4503599627370496 = (4503599627370496 + ly) * 2 ^ k * 2 ^ LY := fun k => by
  rw [show Y * 2 ^ k * 4503599627370496 = Y * 4503599627370496 * 2 ^ k by ac_rfl, b2]; ac_rfl
 have lift : ∀ k, (4503599627370496 + ly) * 2 ^ k ≤ (4503599627370496 + lx) * 2 ^ K0 → Y * 2 ^ k ≤ X := fun k hk => by
  refine Nat.le_of_mul_le_mul_right (c := 4503599627370496) ?_ (by omega)
  rw [eX, eY]; exact Nat.mul_le_mul_right _ hk
 have liftlt : ∀ k, (4503599627370496 + lx) * 2 ^ K0 < (4503599627370496 + ly) * 2 ^ k → X < Y * 2 ^ k := fun k hk => by
  refine Nat.lt_of_mul_lt_mul_right (a := 4503599627370496) ?_
  rw [eX, eY]; exact Nat.mul_lt_mul_of_pos_right hk (Nat.two_pow_pos LY)
 have hp := Nat.two_pow_pos K0
 by_cases hlt : lx < ly
 ·have hd : decide (lx < ly) = true := decide_eq_true hlt
  have hK : 1 ≤ K0 := by
   rcases Nat.eq_zero_or_pos K0 with h0 | h0
   ·subst h0; simp at hm2; omega
   ·exact h0
  obtain ⟨k, rfl⟩ := Nat.exists_eq_add_of_le hK
  refine ⟨k, by rw [hd]; simp; omega, lift _ ?_, liftlt _ ?_⟩
  ·rw [show 1 + k = k + 1 by omega, Nat.pow_succ, Nat.mul_comm (2 ^ k) 2, ← Nat.mul_assoc]
   exact Nat.mul_le_mul_right _ (by omega)
  ·rw [show k + 1 = 1 + k by omega]
   exact Nat.mul_lt_mul_of_pos_right (by omega) (Nat.two_pow_pos _)
 ·have hd : decide (lx < ly) = false := decide_eq_false hlt
  refine ⟨K0, by rw [hd]; simp, lift _ (Nat.mul_le_mul_right _ (by omega)), liftlt _ ?_⟩
  rw [Nat.pow_succ, Nat.mul_comm (2 ^ K0) 2, ← Nat.mul_assoc]
  exact Nat.mul_lt_mul_of_pos_right (by omega) hp
theorem ld_units {Y ly LY k r : Nat} (hy : FX Y ly LY) (hr : r < 9218868437227405312) (hu : unitsOf r = Y * 2 ^ k) : scW (4503599627370496 + ly) ((LY : Int) + (k : Int) - 51) = r := by
 have h := nearest_small hr
 have e52 : (4503599627370496 : Nat) = 2 ^ 52 := by decide
 have e1 := nearest_scale false (unitsOf r) 52 (-1126)
 have e2 := nearest_scale false (4503599627370496 + ly) (LY + k) (-1126)
 rw [Nat.shiftLeft_eq, ← e52, hu, show Y * 2 ^ k * 4503599627370496 = Y * 4503599627370496 * 2 ^ k by ac_rfl, hy.2, Nat.mul_assoc, ← Nat.pow_add, ← Nat.shiftLeft_eq, e2, ← hu, show (-1126 : Int) + ((52 : Nat) : Int) = -1074 by omega, h] at e1
 unfold scW
 rw [show (LY : Int) + (k : Int) - 51 - 1075 = -1126 + ((LY + k : Nat) : Int) by omega]
 exact e1
theorem uv_small {r : Nat} (h : r < 9218868437227405312) : uv r = (unitsOf r : Int) := by
 unfold uv; rw [sgn_small (by omega), rung_small (by omega)]; rfl
theorem sub_units {r s d : Nat} (hr : r < 9218868437227405312) (hs : s < 9218868437227405312) (hd : d < 9218868437227405312) (h : unitsOf s ≤ unitsOf r) (e : unitsOf d = unitsOf r - unitsOf s) : fsub r s = d := by
 rw [sub_fin (isF_small hr) (isF_small hs), sgn_small (x := r) (by omega), uv_small hr, uv_small hs, Bool.false_and]
 unfold roundU
 have e1 : (unitsOf r : Int) - (unitsOf s : Int) = (unitsOf d : Int) := by omega
 rw [e1, Int.natAbs_natCast]
 have e2 : (if (unitsOf d : Int) = 0 then false else decide ((unitsOf d : Int) < 0)) = false := by
  split
  ·rfl
  ·exact decide_eq_false (by omega)
 rw [e2]
 exact nearest_small hd
theorem sub_keeps_mod {R Y k : Nat} (h : Y * 2 ^ k ≤ R) : (R - Y * 2 ^ k) % Y = R % Y := by
 have := Nat.sub_mul_mod (x := R) (k := 2 ^ k) (n := Y) (by exact h)
 exact this
theorem sub_is_mod {R Y k : Nat} (h : Y * 2 ^ k ≤ R) (h2 : R < Y * 2 ^ (k + 1)) : R - Y * 2 ^ k = R % (Y * 2 ^ k) := by
 rw [Nat.pow_succ, ← Nat.mul_assoc] at h2
 rw [Nat.mod_eq_sub_mod h, Nat.mod_eq_of_lt (by omega)]
theorem mod_step {R Y lx LX ly LY : Nat} (hR : Rp R) (hY : Rp Y) (hY0 : 0 < Y) (hx : FX R lx LX) (hy : FX Y ly LY) (h : Y ≤ R) :
  ∃ k r s : Nat, LX = LY + k + (decide (lx < ly)).toNat ∧ r < 9218868437227405312 ∧ unitsOf r = Y * 2 ^ k ∧ Y * 2 ^ k ≤ R ∧ s < 9218868437227405312 ∧ unitsOf s = R - Y * 2 ^ k ∧ unitsOf s % Y = R % Y ∧ unitsOf s < R := by
 obtain ⟨k, h1, h2, h3⟩ := fx_step hx hy h
 have hp : 0 < Y * 2 ^ k := Nat.mul_pos hY0 (Nat.two_pow_pos k)
 obtain ⟨r, r1, r2⟩ := rp_scale hY h2 hR
 obtain ⟨s, s1, s2⟩ := rp_mod hR (rp_scale hY h2 hR) hp
 rw [← sub_is_mod h2 h3] at s2
 exact ⟨k, r, s, h1, r1, r2, h2, s1, s2, by rw [s2, sub_keeps_mod h2], by omega⟩
def modW (s : Bool) (X Y : Nat) : Nat := double.nearest s (X % Y) (-1074)
def modS (x y : Nat) : Nat :=
 if isN x = true ∨ isN y = true ∨ rung x = 9218868437227405312 ∨ rung y = 0 then nanc
 else if rung y = 9218868437227405312 ∨ rung x = 0 then x
 else modW (sgn x) (unitsOf (rung x)) (unitsOf (rung y))
theorem modW_of {s : Bool} {X Y r : Nat} (hr : r < 9218868437227405312) (h : unitsOf r = X % Y) : modW s X Y = double.word s r := by
 unfold modW
 rw [← h]
 exact nearest_units s hr
theorem fdiv_half {x y : Nat} (hx : x < 9218868437227405312) (hy : y < 9218868437227405312) (h : 2 * unitsOf y = unitsOf x) : fdiv x cTwo = y := by
 have f2 : isF cTwo := isF_small (by decide)
 have fx := isF_small hx
 have e2 : cTwo = wz 2 := by decide +kernel
 have v2 : fv cTwo = 2 := by rw [e2]; exact (fv_wz (z := 2) (by decide)).2
 have u2 : uv cTwo ≠ 0 := fun h => by
  have : fv cTwo = 0 := by unfold fv; rw [h]; grind
  grind
 have hd := div_rd fx f2 u2
 rw [v2] at hd
 have fh := isF_small hy
 have hv : fv y = fv x / 2 := by
  rw [fv_small hy, fv_small hx, ← h, nq_mul]
  have : nq 2 = 2 := rfl
  rw [this]; grind
 have fr : isF (fdiv x cTwo) := hd.fin _ _ fh fh (by rw [hv]; exact Rat.le_refl) (by rw [hv]; exact Rat.le_refl)
 have a := hd.ge _ fh fr (by rw [hv]; exact Rat.le_refl)
 have b := hd.le _ fh fr (by rw [hv]; exact Rat.le_refl)
 have huv : uv (fdiv x cTwo) = uv y := Int.le_antisymm (fv_le.1 b) (fv_le.1 a)
 obtain ⟨m, n, p, q, _, _, _, _, hw⟩ := div_fin fx f2 u2
 rw [sgn_small (x := x) (by omega), sgn_small (x := cTwo) (by decide)] at hw
 generalize (2 * (m * 2 ^ (54 + n.log2 - m.log2) / n) + (m * 2 ^ (54 + n.log2 - m.log2) % n != 0).toNat) * 2 ^ (p + K) = A at hw
 generalize 54 + n.log2 - m.log2 + 1 + q = D at hw
 have ht := nrung_top A D
 have hw2 : fdiv x cTwo = nrung A D := by rw [hw, word_eq]; rfl
 rw [hw2] at fr huv ⊢
 have h1 : uv (nrung A D) = (unitsOf (nrung A D) : Int) := by unfold uv; rw [sgn_small (by omega), rung_small (by omega)]; rfl
 rw [h1, uv_small hy] at huv
 exact unitsOf_inj (by omega)
theorem wz_exact {n r : Nat} (hr : r < 9218868437227405312) (h : unitsOf r = n * 2 ^ K) : wz (n : Int) = r := by
 have e := nearest_small hr
 rw [h, ← Nat.shiftLeft_eq, nearest_scale, show (-1074 : Int) + (K : Int) = 0 by rw [K_eq]; omega] at e
 unfold wz
 rw [decide_eq_false (by omega), Int.natAbs_natCast]
 exact e
theorem odd_le {n a m b : Nat} (hn : n % 2 = 1) (h : n * 2 ^ a = m * 2 ^ b) : n ≤ m := by
 by_cases hab : b ≤ a
 ·obtain ⟨d, rfl⟩ := Nat.exists_eq_add_of_le hab
  have e1 : n * 2 ^ d = m := by
   refine Nat.eq_of_mul_eq_mul_right (Nat.two_pow_pos b) ?_
   rw [← h, Nat.pow_add]; ac_rfl
  rw [← e1]
  exact Nat.le_mul_of_pos_right _ (Nat.two_pow_pos d)
 ·exfalso
  obtain ⟨d, rfl⟩ := Nat.exists_eq_add_of_lt (Nat.lt_of_not_le hab)
  have e1 : n = m * 2 ^ d * 2 := by
   refine Nat.eq_of_mul_eq_mul_right (Nat.two_pow_pos a) ?_
   rw [h, show a + d + 1 = d + 1 + a by omega, Nat.pow_add, Nat.pow_succ]; ac_rfl
  omega
theorem rp_units {n Z g : Nat} {e : Int} (hz : Rp Z) (h : n * 2 ^ g = Z) (he : (g : Int) = e + (K : Int)) (ho : n % 2 = 1 ∨ 0 ≤ e) : Rp (n * 2 ^ K) := by
 rcases ho with ho | ho
 ·obtain ⟨m, t, m1, t1, em⟩ := rp_parts hz
  have hle := odd_le ho (h.trans em)
  exact rung_of53 n K (by omega) (by rw [K_eq]; omega)
 ·obtain ⟨d, rfl⟩ : ∃ d : Nat, e = (d : Int) := ⟨e.toNat, by omega⟩
  refine rp_down (e := d) ?_
  rw [Nat.mul_assoc, ← Nat.pow_add, show K + d = g by omega, h]
  exact hz
theorem sub_scale52 {x : Nat} (h0 : 0 < x) (h1 : x < 4503599627370496) : ∃ E low, fmul x 4841369599423283200 = E * 4503599627370496 + low ∧ low < 4503599627370496 ∧ 1 ≤ E ∧ E ≤ 52 ∧ unitsOf (E * 4503599627370496 + low) = unitsOf x * 4503599627370496 := by
 have hx0 : x ≠ 0 := by omega
 obtain ⟨L, hL⟩ : ∃ L, L = x.log2 := ⟨_, rfl⟩
 have l1 : 2 ^ L ≤ x := by rw [hL]; exact Nat.log2_self_le hx0
 have l2 : x < 2 ^ (L + 1) := by rw [hL]; exact Nat.lt_log2_self
 have l3 : L < 52 := by rw [hL]; exact (Nat.log2_lt hx0).2 h1
 have e52 : (2 : Nat) ^ 52 = 4503599627370496 := by decide
 have p1 : 2 ^ L * 2 ^ (52 - L) = 4503599627370496 := by rw [← Nat.pow_add, show L + (52 - L) = 52 by omega]
 have p2 : 2 ^ (L + 1) * 2 ^ (52 - L) = 9007199254740992 := by rw [← Nat.pow_add, show L + 1 + (52 - L) = 53 by omega]
 have hp := Nat.two_pow_pos (52 - L)
 have m1 : 2 ^ L * 2 ^ (52 - L) ≤ x * 2 ^ (52 - L) := Nat.mul_le_mul_right _ l1
 have m2 : x * 2 ^ (52 - L) < 2 ^ (L + 1) * 2 ^ (52 - L) := Nat.mul_lt_mul_of_pos_right l2 hp
 rw [p1] at m1
 rw [p2] at m2
 obtain ⟨low, hlow⟩ : ∃ low, x * 2 ^ (52 - L) = 4503599627370496 + low := ⟨x * 2 ^ (52 - L) - 4503599627370496, by omega⟩
 have hl : low < 4503599627370496 := by omega
 have hu : unitsOf x = x := by unfold unitsOf; rw [if_pos h1]
 obtain ⟨J, hJ⟩ : ∃ J : Nat, J = 1075 := ⟨_, rfl⟩
 have hub := units_norm (E := J) (low := 0) (by omega) (by omega)
 have hJB : 4841369599423283200 = J * 4503599627370496 := by omega
 rw [Nat.add_zero, Nat.add_zero, ← hJB] at hub
 have hplace : -1074 - (K : Int) + ((52 + (J - 1) : Nat) : Int) = -1022 := by rw [K_eq]; omega
 have hplace2 : ((1 + L : Nat) : Int) - 1075 + ((52 - L : Nat) : Int) = -1022 := by omega
 clear hJ hJB
 generalize J - 1 = T at *
 have hmul : fmul x 4841369599423283200 = scW (4503599627370496 + low) ((1 + L : Nat) : Int) := by
  rw [mul_fin (isF_small (by omega)) (isF_small (by decide)), sgn_small (by omega), sgn_small (by decide), rung_small (by omega), rung_small (by decide), ← nearest_word, hu, hub]
  have e1 : x * (4503599627370496 * 2 ^ T) = x <<< (52 + T) := by
   rw [Nat.shiftLeft_eq, Nat.pow_add, e52]
  rw [e1, nearest_scale, hplace]
  unfold scW
  rw [← hlow, ← Nat.shiftLeft_eq, nearest_scale, hplace2]
  rfl
 clear hub
 refine ⟨1 + L, low, ?_, hl, by omega, by omega, ?_⟩
 ·rw [hmul, scW_norm hl rfl (by omega) (by omega)]
 ·rw [units_norm (by omega) hl, ← hlow, hu, Nat.mul_assoc, ← Nat.pow_add, show 52 - L + (1 + L - 1) = 52 by omega, e52]
end Go.Fl
namespace Go.Fl
open Ieee
theorem fmul_pow2' {E low J : Nat} (hl : low < 4503599627370496) (h1 : 1 ≤ E) (h2 : E ≤ 2046) (j1 : 1 ≤ J) (j2 : J ≤ 2046) :
  fmul (J * 4503599627370496) (E * 4503599627370496 + low) = scW (4503599627370496 + low) ((E : Int) + (J : Int) - 1023) := by
 have h := fmul_pow2 hl h1 h2 j1 j2
 have a : isF (E * 4503599627370496 + low) := isF_small (by omega)
 have b : isF (J * 4503599627370496) := isF_small (by omega)
 rw [mul_fin a b] at h
 rw [mul_fin b a, Nat.mul_comm (unitsOf _), Bool.xor_comm]
 exact h
theorem fx_bound {u low L k : Nat} (h : FX u low L) (hr : Rp (u * 2 ^ k)) : L + k < 2098 := by
 have h1 := rp_lt hr
 have h2 : 2 ^ L ≤ u := by
  refine Nat.le_of_mul_le_mul_right (c := 4503599627370496) ?_ (by omega)
  rw [h.2, Nat.mul_comm]
  exact Nat.mul_le_mul_right _ (by omega)
 have h3 : 2 ^ L * 2 ^ k ≤ u * 2 ^ k := Nat.mul_le_mul_right _ h2
 rw [← Nat.pow_add] at h3
 have h4 := (Nat.pow_lt_pow_iff_right (a := 2) (by omega)).1 (Nat.lt_of_le_of_lt h3 h1)
 rwa [TopE_eq] at h4
end Go.Fl
namespace Go.Proofs.YtmmfjknnbkcniaaGreatDoor
open Go.Fl Go.Rel Go.RowKit
set_option linter.unusedSimpArgs false
set_option linter.unusedVariables false
theorem nat_low (S : Nat) (hS : S < 9223372036854775808) : S &&& 9227875636482146303 = S % 4503599627370496 := by
 rw [show (9227875636482146303 : Nat) = 2 ^ 63 * 1 + (2 ^ 52 - 1) by decide, show (4503599627370496 : Nat) = 2 ^ 52 by decide]
 apply Nat.eq_of_testBit_eq
 intro i
 rw [Nat.testBit_and, Nat.testBit_two_pow_mul_add 1 (by decide : 2 ^ 52 - 1 < 2 ^ 63), Nat.testBit_mod_two_pow, Nat.testBit_two_pow_sub_one]
 by_cases hi : i < 63
 ·rw [if_pos hi, Bool.and_comm]
 ·have h0 : S.testBit i = false := Nat.testBit_lt_two_pow (Nat.lt_of_lt_of_le (show S < 2 ^ 63 from hS) (Nat.pow_le_pow_right (by omega) (by omega)))
  rw [h0]; simp
theorem andNot_exp (S E low : Nat) (hS : S = E * 4503599627370496 + low) (hl : low < 4503599627370496) (hE : E ≤ 2046) : bits .andNot .u64 (S : Int) 9218868437227405312 = (low : Int) := by
 have := u64_andNot_nat S 9218868437227405312 (by omega) (by omega)
 rw [show 18446744073709551615 - 9218868437227405312 = 9227875636482146303 by decide, nat_low S (by omega), hS, show (E * 4503599627370496 + low) % 4503599627370496 = low by omega] at this
 rw [hS]
 exact this
theorem or_1022 (low : Nat) (hl : low < 4503599627370496) : bits .or .u64 (low : Int) 4602678819172646912 = ((1022 * 4503599627370496 + low : Nat) : Int) := by
 have := u64_or_nat low 4602678819172646912 (by omega) (by omega)
 rw [Nat.or_comm, nat_join 52 4602678819172646912 low (by decide) (by omega)] at this
 exact this
theorem or_low2 (F low : Nat) (hl : low < 4503599627370496) (hF : F ≤ 2046) : bits .or .u64 (low : Int) ((F : Int) * 4503599627370496) = ((F * 4503599627370496 + low : Nat) : Int) := by
 have := u64_or_nat low (F * 4503599627370496) (by omega) (by omega)
 rw [Nat.or_comm, nat_join 52 (F * 4503599627370496) low (by omega) (by omega)] at this
 rw [Int.natCast_mul] at this
 exact this
theorem and_i64 (E : Nat) (hE : E ≤ 2046) : bits .and .i64 (E : Int) 2047 = (E : Int) := by
 show IntKind.i64.wrap ((BitVec.ofInt 64 (E : Int) &&& BitVec.ofInt 64 ((2047 : Nat) : Int)).toNat : Int) = _
 rw [BitVec.toNat_and, ofInt_u64 E (by omega), ofInt_u64 2047 (by omega), nat_mask11, Nat.mod_eq_of_lt (by omega)]
 simp [IntKind.wrap, IntKind.bits, IntKind.signed]
 omega
def NormR (r : Nat) (w : World) (e : Ending) (w' : World) : Prop :=
 ∃ (E low L : Nat) (c : Int) (n : Nat), e = .returned (.tuple #[.float .f64 (E * 4503599627370496 + low : Nat), .int .i64 c]) ∧ FX (unitsOf r) low L ∧ 1 ≤ E ∧ E ≤ 2046 ∧ (L : Int) = (E : Int) + 51 + c ∧ -52 ≤ c ∧ c ≤ 0 ∧ w' = w.drewN n
theorem norm_any (r : Nat) (w : World) (h0 : 0 < r) (hr : r < 9218868437227405312) : Calls Tryz.prog 167 #[.float .f64 r] w (NormR r w) := by
 have htop : r % top = r := Nat.mod_eq_of_lt (by unfold top; omega)
 by_cases hs : r < 4503599627370496
 ·have hlt : (FloatKind.f64.format.order r 4503599627370496 == some .lt) = true := by rw [show (FloatKind.f64.format.order r 4503599627370496 == some .lt) = decide (r < 4503599627370496) from flt_small (by omega) (by omega)]; exact decide_eq_true hs
  obtain ⟨E, low, hm, hl, hE1, hE2, hu⟩ := sub_scale52 h0 hs
  have HM := qh hm
  have HU := qh hu
  have HL := qh hl
  have HC : Hid (cn r = r) := qh (cn_small hr)
  clear hm hu hl hs h0 hr
  go_enter Tryz.func167, Tryz.ntmps167
  go_wp2_with (first | (go_at_call 79; refine (abs_any _ _).mono ?_; rintro e w' ⟨rfl, rfl⟩; rw [htop]) | (refine wpList_fop .mul _ _ _ _ r 4841369599423283200 rfl rfl rfl ?_; intro ry ny hry; have HY := qh hry; clear hry))
  go_ret2
  have hl := HL.out
  have hy : ry = E * 4503599627370496 + low := by
   refine eq_of_cn (c := E * 4503599627370496 + low) ?_ (isF_notN (isF_small (by omega)))
   rw [HY.out, HC.out, show cn 4841369599423283200 = 4841369599423283200 by decide +kernel]
   exact HM.out
  exact ⟨E, low, E - 1, -52, _, by rw [hy]; rfl, fx_sub hE1 hl HU.out, hE1, by omega, by omega, by omega, by omega, by first | rfl | (simp only [World.drewN_drewN]; rfl)⟩
 ·have hlt : (FloatKind.f64.format.order r 4503599627370496 == some .lt) = false := by rw [show (FloatKind.f64.format.order r 4503599627370496 == some .lt) = decide (r < 4503599627370496) from flt_small (by omega) (by omega)]; exact decide_eq_false hs
  have HR := qh hr
  have HS := qh hs
  clear hr hs h0
  go_enter Tryz.func167, Tryz.ntmps167
  go_wp2_with (first | (go_at_call 79; refine (abs_any _ _).mono ?_; rintro e w' ⟨rfl, rfl⟩; rw [htop]))
  go_ret2
  have hr := HR.out
  have hs := HS.out
  refine ⟨r / 4503599627370496, r % 4503599627370496, r / 4503599627370496 + 51, 0, 0, ?_, fx_norm (by omega) (by omega) (by omega), by omega, by omega, by omega, by omega, by omega, rfl⟩
  rw [show r / 4503599627370496 * 4503599627370496 + r % 4503599627370496 = r by omega]; rfl
def FrexpR (r : Nat) (w : World) (e : Ending) (w' : World) : Prop :=
 ∃ (low L n : Nat), e = .returned (.tuple #[.float .f64 (1022 * 4503599627370496 + low : Nat), .int .i64 ((L : Int) - 1073)]) ∧ FX (unitsOf r) low L ∧ L ≤ 2097 ∧ w' = w.drewN n
theorem finf_small {r : Nat} (hr : r < 9218868437227405312) : finf (cn r) = false := by
 rw [cn_small hr]
 unfold finf fabs
 rw [show isN r = false from isF_notN (isF_small hr)]
 simp only [Bool.false_eq_true, if_false]
 rw [show r % top = r from Nat.mod_eq_of_lt (by unfold top; omega), ford_small (by omega) (by omega)]
 have : compare (r : Int) ((9218868437227405311 : Nat) : Int) ≠ .gt := by
  rw [ne_eq, Std.compare_eq_gt]; omega
 revert this
 generalize compare (r : Int) ((9218868437227405311 : Nat) : Int) = o
 cases o <;> simp
theorem feq_zero {r : Nat} (h0 : 0 < r) (hr : r < 9218868437227405312) : (FloatKind.f64.format.order r 0 == some .eq) = false := by
 rw [show FloatKind.f64.format.order r 0 = some (compare (r : Int) ((0 : Nat) : Int)) from ford_small (by omega) (by omega)]
 have : compare (r : Int) ((0 : Nat) : Int) ≠ .eq := by
  rw [ne_eq, Std.compare_eq_iff_eq]; omega
 revert this
 generalize compare (r : Int) ((0 : Nat) : Int) = o
 cases o <;> simp
theorem frexp_in (r : Nat) (w : World) (h0 : 0 < r) (hr : r < 9218868437227405312) : Calls Tryz.prog 157 #[.float .f64 r] w (FrexpR r w) := by
 have hz := feq_zero h0 hr
 have hi := finf_small hr
 have hn : isN r = false := isF_notN (isF_small hr)
 have H0 := qh h0
 have HR := qh hr
 clear h0 hr
 go_enter Tryz.func157, Tryz.ntmps157
 go_wp2_with (first | (go_at_call 109; refine (isinf_any _ _).mono ?_; rintro e w' ⟨rfl, rfl⟩; rw [hi]) | (go_at_call 75; refine (isnan_any _ _).mono ?_; rintro e w' ⟨rfl, rfl⟩; rw [hn]))
 go_at_call 167
 refine (norm_any _ _ H0.out HR.out).mono ?_
 rintro e w' ⟨E, low, L, c, n, rfl, hfx, hE1, hE2, hL, hc1, hc2, rfl⟩
 obtain ⟨S, hS⟩ : ∃ S, S = E * 4503599627370496 + low := ⟨_, rfl⟩
 rw [← hS]
 have hl := hfx.1
 have hb1 := and_2047 S E low hS hl hE2
 have hb2 := andNot_exp S E low hS hl hE2
 have hb3 := or_1022 low hl
 have hby := bits_run S
 have hf0 := frombits_run ((1022 * 4503599627370496 + low : Nat) : Int)
 rw [Int.toNat_natCast] at hf0
 obtain ⟨T, hT⟩ : ∃ T, T = 1022 * 4503599627370496 + low := ⟨_, rfl⟩
 rw [← hT] at hb3 hf0
 have e1 : (1 : Int) ≤ (E : Int) := by omega
 have e2 : (E : Int) ≤ 2046 := by omega
 have HFX := qh hfx
 have HT := qh hT
 have HLL := qh hL
 clear hS hl hE1 hE2 hfx hT hL
 go_wp2_with (first | simp only [hby] | simp only [hf0])
 go_ret2
 refine ⟨low, L, _, ?_, HFX.out, by have := HLL.out; omega, rfl⟩
 rw [← HT.out, show c + ((E : Int) - 1023 + 1) = (L : Int) - 1073 by have := HLL.out; omega]; rfl
theorem frexp_any (r : Nat) (w : World) (h0 : 0 < r) (hr : r < 9218868437227405312) : Calls Tryz.prog 138 #[.float .f64 r] w (FrexpR r w) := by
 have H0 := qh h0
 have HR := qh hr
 clear h0 hr
 go_enter Tryz.func138, Tryz.ntmps138
 go_wp2_with (go_at_call 157; refine (frexp_in _ _ H0.out HR.out).mono ?_; rintro e w' ⟨low, L, n, rfl, hfx, hL, rfl⟩; have HFX := qh hfx; clear hfx)
 go_ret2
 exact ⟨low, L, n, rfl, HFX.out, hL, rfl⟩
theorem frexp_inf0 (w : World) : Calls Tryz.prog 157 #[.float .f64 pinf] w fun e w' => e = .returned (.tuple #[.float .f64 pinf, .int .i64 0]) ∧ w = w' := by
 have hz : (FloatKind.f64.format.order pinf 0 == some .eq) = false := by decide +kernel
 have hi : finf (cn pinf) = true := by decide +kernel
 go_enter Tryz.func157, Tryz.ntmps157
 go_wp2_with (first | (go_at_call 109; refine (isinf_any _ _).mono ?_; rintro e w' ⟨rfl, rfl⟩; rw [hi]))
 go_ret2
 exact ⟨rfl, rfl⟩
theorem frexp_inf (w : World) : Calls Tryz.prog 138 #[.float .f64 pinf] w fun e w' => e = .returned (.tuple #[.float .f64 pinf, .int .i64 0]) ∧ w = w' := by
 go_enter Tryz.func138, Tryz.ntmps138
 go_wp2_with (go_at_call 157; refine (frexp_inf0 _).mono ?_; rintro e w' ⟨rfl, rfl⟩)
 go_ret2
 exact ⟨rfl, rfl⟩
def LdexpR (s : Nat) (w : World) (e : Ending) (w' : World) : Prop := ∃ n, e = .returned (.float .f64 s) ∧ w' = w.drewN n
theorem ldexp_in (r s k : Nat) (w : World) (h0 : 0 < r) (hr : r < 9218868437227405312) (hs : s < 9218868437227405312) (hu : unitsOf s = unitsOf r * 2 ^ k) :
  Calls Tryz.prog 159 #[.float .f64 r, .int .i64 (k : Int)] w (LdexpR s w) := by
 have hz := feq_zero h0 hr
 have hi := finf_small hr
 have hn : isN r = false := isF_notN (isF_small hr)
 have H0 := qh h0
 have HR := qh hr
 have HS := qh hs
 have HU := qh hu
 clear h0 hr hs hu
 go_enter Tryz.func159, Tryz.ntmps159
 go_wp2_with (first | (go_at_call 109; refine (isinf_any _ _).mono ?_; rintro e w' ⟨rfl, rfl⟩; rw [hi]) | (go_at_call 75; refine (isnan_any _ _).mono ?_; rintro e w' ⟨rfl, rfl⟩; rw [hn]))
 go_at_call 167
 refine (norm_any _ _ H0.out HR.out).mono ?_
 rintro e w' ⟨E, low, L, c, n, rfl, hfx, hE1, hE2, hL, hc1, hc2, rfl⟩
 obtain ⟨S, hS⟩ : ∃ S, S = E * 4503599627370496 + low := ⟨_, rfl⟩
 rw [← hS]
 have hLk : L + k < 2098 := fx_bound hfx ⟨s, HS.out, HU.out⟩
 have hld : scW (4503599627370496 + low) ((L : Int) + (k : Int) - 51) = s := ld_units hfx HS.out HU.out
 have hl := hfx.1
 have hb1 := and_i64 E hE2
 have hb0 : (S : Int) / 4503599627370496 = (E : Int) := by omega
 have hb2 := andNot_exp S E low hS hl hE2
 have hby := bits_run S
 obtain ⟨k1, hk1⟩ : ∃ k1, (k : Int) + c = k1 := ⟨_, rfl⟩
 obtain ⟨f, hf⟩ : ∃ f, k1 + ((E : Int) - 1023) = f := ⟨_, rfl⟩
 have d1 : decide (f < -1075) = false := decide_eq_false (by omega)
 have d2 : decide (1023 < f) = false := decide_eq_false (by omega)
 have ka : (k : Int) < 2098 := by omega
 have kb : (0 : Int) ≤ (k : Int) := by omega
 have e1 : (1 : Int) ≤ (E : Int) := by omega
 have e2 : (E : Int) ≤ 2046 := by omega
 have k1a : k1 ≤ 2098 := by omega
 have k1b : -52 ≤ k1 := by omega
 by_cases hsub : f < -1022
 ·have d3 : decide (f < -1022) = true := decide_eq_true hsub
  obtain ⟨F, hF⟩ : ∃ F : Nat, f + 53 + 1023 = (F : Int) := ⟨(f + 53 + 1023).toNat, by omega⟩
  have F1 : 1 ≤ F := by omega
  have F2 : F ≤ 2046 := by omega
  have hb3 := or_low2 F low hl F2
  have hmul : fmul (970 * 4503599627370496) (F * 4503599627370496 + low) = s := by
   rw [fmul_pow2' hl F1 F2 (by omega) (by omega), ← hld]
   congr 1
   omega
  obtain ⟨T, hT⟩ : ∃ T, T = F * 4503599627370496 + low := ⟨_, rfl⟩
  have hTn := cn_small (x := T) (by omega)
  rw [← hT] at hb3 hmul
  have hf0 := frombits_run (T : Int)
  rw [Int.toNat_natCast] at hf0
  have HM := qh hmul
  have HTN := qh hTn
  have F3 : (1 : Int) ≤ (F : Int) := by omega
  have F4 : (F : Int) ≤ 2046 := by omega
  have f5 : -1075 ≤ f := by omega
  have f6 : f < -1022 := hsub
  clear hS hl hE1 hE2 hfx hT hL hsub hld hLk hmul hTn F1 F2
  go_wp2_with (first | simp only [hby] | simp only [hf0] | (refine wpList_fop .mul _ _ _ _ 4368491638549381120 T rfl rfl rfl ?_; intro ry ny hry; have HY := qh hry; clear hry))
  go_ret
  have hy : ry = s := eq_of_cn (c := s) (by rw [HY.out, HTN.out, show cn 4368491638549381120 = 970 * 4503599627370496 by decide +kernel]; exact HM.out) (isF_notN (isF_small HS.out))
  exact ⟨_, by rw [hy]; rfl, by first | rfl | (simp only [World.drewN_drewN]; rfl)⟩
 ·have d3 : decide (f < -1022) = false := decide_eq_false hsub
  obtain ⟨F, hF⟩ : ∃ F : Nat, f + 1023 = (F : Int) := ⟨(f + 1023).toNat, by omega⟩
  have F1 : 1 ≤ F := by omega
  have F2 : F ≤ 2046 := by omega
  have hb3 := or_low2 F low hl F2
  have hmul : fmul (1023 * 4503599627370496) (F * 4503599627370496 + low) = s := by
   rw [fmul_pow2' hl F1 F2 (by omega) (by omega), ← hld]
   congr 1
   omega
  obtain ⟨T, hT⟩ : ∃ T, T = F * 4503599627370496 + low := ⟨_, rfl⟩
  have hTn := cn_small (x := T) (by omega)
  rw [← hT] at hb3 hmul
  have hf0 := frombits_run (T : Int)
  rw [Int.toNat_natCast] at hf0
  have HM := qh hmul
  have HTN := qh hTn
  have F3 : (1 : Int) ≤ (F : Int) := by omega
  have F4 : (F : Int) ≤ 2046 := by omega
  have f5 : -1022 ≤ f := by omega
  have f6 : f ≤ 1023 := by omega
  clear hS hl hE1 hE2 hfx hT hL hsub hld hLk hmul hTn F1 F2
  go_wp2_with (first | simp only [hby] | simp only [hf0] | (refine wpList_fop .mul _ _ _ _ 4607182418800017408 T rfl rfl rfl ?_; intro ry ny hry; have HY := qh hry; clear hry))
  go_ret
  have hy : ry = s := eq_of_cn (c := s) (by rw [HY.out, HTN.out, show cn 4607182418800017408 = 1023 * 4503599627370496 by decide +kernel]; exact HM.out) (isF_notN (isF_small HS.out))
  exact ⟨_, by rw [hy]; rfl, by first | rfl | (simp only [World.drewN_drewN]; rfl)⟩
theorem ldexp_any (r s k : Nat) (w : World) (h0 : 0 < r) (hr : r < 9218868437227405312) (hs : s < 9218868437227405312) (hu : unitsOf s = unitsOf r * 2 ^ k) :
  Calls Tryz.prog 139 #[.float .f64 r, .int .i64 (k : Int)] w (LdexpR s w) := by
 have H := qh (fun w => ldexp_in r s k w h0 hr hs hu)
 clear h0 hr hs hu
 go_enter Tryz.func139, Tryz.ntmps139
 go_wp2_with (go_at_call 159; refine (H.out _).mono ?_; rintro e w' ⟨n, rfl, rfl⟩)
 go_ret
 exact ⟨n, rfl, rfl⟩
theorem copysign_any (v x : Nat) (w : World) (hv : v < 9223372036854775808) (hx : x < 18446744073709551616) :
  Calls Tryz.prog 111 #[.float .f64 v, .float .f64 x] w fun e w' => e = .returned (.float .f64 (Ieee.double.word (sgn x) v)) ∧ w = w' := by
 have hb1 : bits .andNot .u64 (v : Int) 9223372036854775808 = (v : Int) := by
  have := u64_andNot_nat v 9223372036854775808 (by omega) (by omega)
  rw [show v &&& (18446744073709551615 - 9223372036854775808) = v % 9223372036854775808 from Nat.and_two_pow_sub_one_eq_mod v 63, Nat.mod_eq_of_lt hv] at this
  exact this
 have hb2 : bits .and .u64 (x : Int) 9223372036854775808 = ((x / 9223372036854775808 % 2 * 9223372036854775808 : Nat) : Int) := by
  have := u64_and_nat x 9223372036854775808 (by omega) (by omega)
  rw [show x &&& 9223372036854775808 = x / 9223372036854775808 % 2 * 9223372036854775808 from nat_bit 63 x] at this
  exact this
 obtain ⟨B, hB⟩ : ∃ B, B = x / 9223372036854775808 % 2 * 9223372036854775808 := ⟨_, rfl⟩
 rw [← hB] at hb2
 have hB2 : B = 0 ∨ B = 9223372036854775808 := by omega
 have hb3 : bits .or .u64 (v : Int) (B : Int) = ((B + v : Nat) : Int) := by
  have := u64_or_nat v B (by omega) (by omega)
  rw [Nat.or_comm, nat_join 63 B v (by omega) (by omega)] at this
  exact this
 have hw : Ieee.double.word (sgn x) v = B + v := by
  rw [word_eq, hB]
  unfold sgn
  by_cases h : x / 9223372036854775808 % 2 = 1
  ·rw [h]; simp
  ·rw [show x / 9223372036854775808 % 2 = 0 by omega]; simp
 rw [hw]
 have hby1 := bits_run v
 have hby2 := bits_run x
 have hf0 := frombits_run ((B + v : Nat) : Int)
 rw [Int.toNat_natCast] at hf0
 obtain ⟨T, hT⟩ : ∃ T, T = B + v := ⟨_, rfl⟩
 rw [← hT] at hb3 hf0 ⊢
 clear hw hB hB2 hT hv hx
 go_enter Tryz.func111, Tryz.ntmps111
 go_wp2_with (first | simp only [hby1] | simp only [hby2] | simp only [hf0])
 go_ret
 exact ⟨rfl, rfl⟩
end Go.Proofs.YtmmfjknnbkcniaaGreatDoor
