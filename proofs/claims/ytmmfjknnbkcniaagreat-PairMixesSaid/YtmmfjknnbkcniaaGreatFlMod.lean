/- Remainders, in plain: numbers of least units that a float holds exactly; a remainder is such a number; the places of Frexp and Ldexp. -/
import Derived.Test.YtmmfjknnbkcniaaGreatFlLog
import Derived.Test.YtmmfjknnbkcniaaGreatFlPow2
namespace Go.Fl
open Ieee

/-- A float holds n least units. -/
def Rp (n : Nat) : Prop := ∃ r, r < 9218868437227405312 ∧ unitsOf r = n

/-- Where the digits end. -/
def TopE : Nat := 2098
theorem TopE_eq : TopE = 2098 := rfl

theorem units_parts {r : Nat} (h : r < 9218868437227405312) : ∃ m t, m < 9007199254740992 ∧ t ≤ 2045 ∧ unitsOf r = m * 2 ^ t := by
  unfold unitsOf
  by_cases h1 : r < 4503599627370496
  · exact ⟨r, 0, by omega, by omega, by rw [if_pos h1, Nat.pow_zero, Nat.mul_one]⟩
  · exact ⟨4503599627370496 + r % 4503599627370496, r / 4503599627370496 - 1, by omega, by omega, by rw [if_neg h1]⟩

theorem pow53 : (2 : Nat) ^ 53 = 9007199254740992 := by decide

theorem rp_parts {n : Nat} (h : Rp n) : ∃ m t, m < 9007199254740992 ∧ t ≤ 2045 ∧ n = m * 2 ^ t := by
  obtain ⟨r, h1, rfl⟩ := h
  exact units_parts h1

theorem rp_lt {n : Nat} (h : Rp n) : n < 2 ^ TopE := by
  obtain ⟨m, t, h1, h2, rfl⟩ := rp_parts h
  have hp := Nat.two_pow_pos t
  have a : m * 2 ^ t < 9007199254740992 * 2 ^ t := Nat.mul_lt_mul_of_pos_right h1 hp
  rw [← pow53, ← Nat.pow_add] at a
  exact Nat.lt_of_lt_of_le a (Nat.pow_le_pow_right (by omega) (by rw [TopE_eq]; omega))

theorem rp_mk {m t n : Nat} (hm : m ≤ 9007199254740992) (hle : m * 2 ^ t ≤ n) (hn : Rp n) : Rp (m * 2 ^ t) :=
  rung_of TopE_eq m t hm (Nat.lt_of_le_of_lt hle (rp_lt hn))

theorem rp_mod {a b : Nat} (ha : Rp a) (hb : Rp b) (h0 : 0 < b) : Rp (a % b) := by
  have hle := Nat.mod_le a b
  have hlt := Nat.mod_lt a h0
  obtain ⟨m, s, m1, _, em⟩ := rp_parts ha
  obtain ⟨n, t, n1, _, en⟩ := rp_parts hb
  by_cases hst : s ≤ t
  · obtain ⟨d, rfl⟩ := Nat.exists_eq_add_of_le hst
    have e : a % b = (m % (n * 2 ^ d)) * 2 ^ s := by
      rw [em, en, show n * 2 ^ (s + d) = n * 2 ^ d * 2 ^ s by rw [Nat.pow_add]; ac_rfl, Nat.mul_mod_mul_right]
    have hm := Nat.mod_le m (n * 2 ^ d)
    rw [e]
    exact rp_mk (by omega) (by rw [← e]; exact hle) ha
  · obtain ⟨d, rfl⟩ := Nat.exists_eq_add_of_le (Nat.le_of_not_le hst)
    have e : a % b = (m * 2 ^ d % n) * 2 ^ t := by
      rw [em, en, show m * 2 ^ (t + d) = m * 2 ^ d * 2 ^ t by rw [Nat.pow_add]; ac_rfl, Nat.mul_mod_mul_right]
    have hn0 : 0 < n := by
      rcases Nat.eq_zero_or_pos n with h | h
      · subst h; omega
      · exact h
    have hm := Nat.mod_lt (m * 2 ^ d) hn0
    rw [e]
    exact rp_mk (by omega) (by rw [← e]; exact hle) ha

theorem rp_down {a e : Nat} (h : Rp (a * 2 ^ e)) : Rp a := by
  obtain ⟨m, t, m1, _, em⟩ := rp_parts h
  have hle : a ≤ a * 2 ^ e := Nat.le_mul_of_pos_right _ (Nat.two_pow_pos e)
  by_cases he : e ≤ t
  · obtain ⟨d, rfl⟩ := Nat.exists_eq_add_of_le he
    have e1 : a = m * 2 ^ d := by
      refine Nat.eq_of_mul_eq_mul_right (Nat.two_pow_pos e) ?_
      rw [em, Nat.pow_add]; ac_rfl
    have := rp_mk (m := m) (t := d) (n := a * 2 ^ (e + d - d)) (by omega) (by rw [← e1, Nat.add_sub_cancel]; exact hle) (by rw [Nat.add_sub_cancel, em]; rw [em] at h; exact h)
    rw [e1]
    exact this
  · obtain ⟨d, rfl⟩ := Nat.exists_eq_add_of_le (Nat.le_of_not_le he)
    have e1 : a * 2 ^ d = m := by
      refine Nat.eq_of_mul_eq_mul_right (Nat.two_pow_pos t) ?_
      rw [← em, Nat.pow_add]; ac_rfl
    have h2 : a ≤ a * 2 ^ d := Nat.le_mul_of_pos_right _ (Nat.two_pow_pos d)
    have := rp_mk (m := a) (t := 0) (n := a * 2 ^ (t + d)) (by omega) (by simpa using hle) h
    simpa using this

theorem rp_scale {y k n : Nat} (hy : Rp y) (hle : y * 2 ^ k ≤ n) (hn : Rp n) : Rp (y * 2 ^ k) := by
  obtain ⟨m, t, m1, _, em⟩ := rp_parts hy
  have e : y * 2 ^ k = m * 2 ^ (t + k) := by rw [em, Nat.pow_add]; ac_rfl
  rw [e] at hle ⊢
  exact rp_mk (by omega) hle hn

/-- u is (2^52 + low) 2^(L - 52). -/
def FX (u low L : Nat) : Prop := low < 4503599627370496 ∧ u * 4503599627370496 = (4503599627370496 + low) * 2 ^ L

theorem fx_norm {E low r : Nat} (hE : 1 ≤ E) (hl : low < 4503599627370496) (hr : r = E * 4503599627370496 + low) : FX (unitsOf r) low (E + 51) := by
  refine ⟨hl, ?_⟩
  have e52 : (4503599627370496 : Nat) = 2 ^ 52 := by decide
  rw [hr, units_norm hE hl, show E + 51 = (E - 1) + 52 by omega, Nat.pow_add, ← e52, Nat.mul_assoc]

theorem fx_sub {E low r : Nat} (hE : 1 ≤ E) (hl : low < 4503599627370496) (hu : unitsOf (E * 4503599627370496 + low) = unitsOf r * 4503599627370496) : FX (unitsOf r) low (E - 1) := by
  refine ⟨hl, ?_⟩
  rw [← hu, units_norm hE hl]

theorem fx_step {X Y lx LX ly LY : Nat} (hx : FX X lx LX) (hy : FX Y ly LY) (h : Y ≤ X) : ∃ k, LX = LY + k + (decide (lx < ly)).toNat ∧ Y * 2 ^ k ≤ X ∧ X < Y * 2 ^ (k + 1) := by
  obtain ⟨a1, a2⟩ := hx
  obtain ⟨b1, b2⟩ := hy
  have hm : Y * 4503599627370496 ≤ X * 4503599627370496 := Nat.mul_le_mul_right _ h
  rw [a2, b2] at hm
  have hle : LY ≤ LX := by
    refine Nat.le_of_not_lt fun hlt => ?_
    obtain ⟨d, rfl⟩ := Nat.exists_eq_add_of_lt hlt
    rw [show LX + d + 1 = (d + 1) + LX by omega, Nat.pow_add, ← Nat.mul_assoc] at hm
    have h1 := Nat.le_of_mul_le_mul_right hm (Nat.two_pow_pos LX)
    have h2 : (4503599627370496 + ly) * 2 ≤ (4503599627370496 + ly) * 2 ^ (d + 1) := Nat.mul_le_mul_left _ (by rw [Nat.pow_succ]; have := Nat.two_pow_pos d; omega)
    omega
  obtain ⟨K0, rfl⟩ := Nat.exists_eq_add_of_le hle
  rw [show LY + K0 = K0 + LY by omega, Nat.pow_add, ← Nat.mul_assoc] at hm
  have hm2 := Nat.le_of_mul_le_mul_right hm (Nat.two_pow_pos LY)
  have hpow : ∀ A B : Nat, A * 2 ^ LY * 4503599627370496 = A * 4503599627370496 * 2 ^ LY := fun A B => by ac_rfl
  have eX : X * 4503599627370496 = (4503599627370496 + lx) * 2 ^ K0 * 2 ^ LY := by rw [a2, show LY + K0 = K0 + LY by omega, Nat.pow_add]; ac_rfl
  have eY : ∀ k, Y * 2 ^ k * 4503599627370496 = (4503599627370496 + ly) * 2 ^ k * 2 ^ LY := fun k => by
    rw [show Y * 2 ^ k * 4503599627370496 = Y * 4503599627370496 * 2 ^ k by ac_rfl, b2]; ac_rfl
  have lift : ∀ k, (4503599627370496 + ly) * 2 ^ k ≤ (4503599627370496 + lx) * 2 ^ K0 → Y * 2 ^ k ≤ X := fun k hk => by
    refine Nat.le_of_mul_le_mul_right (c := 4503599627370496) ?_ (by omega)
    rw [eX, eY]; exact Nat.mul_le_mul_right _ hk
  have liftlt : ∀ k, (4503599627370496 + lx) * 2 ^ K0 < (4503599627370496 + ly) * 2 ^ k → X < Y * 2 ^ k := fun k hk => by
    refine Nat.lt_of_mul_lt_mul_right (a := 4503599627370496) ?_
    rw [eX, eY]; exact Nat.mul_lt_mul_of_pos_right hk (Nat.two_pow_pos LY)
  have hp := Nat.two_pow_pos K0
  by_cases hlt : lx < ly
  · have hd : decide (lx < ly) = true := decide_eq_true hlt
    have hK : 1 ≤ K0 := by
      rcases Nat.eq_zero_or_pos K0 with h0 | h0
      · subst h0; simp at hm2; omega
      · exact h0
    obtain ⟨k, rfl⟩ := Nat.exists_eq_add_of_le hK
    refine ⟨k, by rw [hd]; simp; omega, lift _ ?_, liftlt _ ?_⟩
    · rw [show 1 + k = k + 1 by omega, Nat.pow_succ, Nat.mul_comm (2 ^ k) 2, ← Nat.mul_assoc]
      exact Nat.mul_le_mul_right _ (by omega)
    · rw [show k + 1 = 1 + k by omega]
      exact Nat.mul_lt_mul_of_pos_right (by omega) (Nat.two_pow_pos _)
  · have hd : decide (lx < ly) = false := decide_eq_false hlt
    refine ⟨K0, by rw [hd]; simp, lift _ (Nat.mul_le_mul_right _ (by omega)), liftlt _ ?_⟩
    rw [Nat.pow_succ, Nat.mul_comm (2 ^ K0) 2, ← Nat.mul_assoc]
    exact Nat.mul_lt_mul_of_pos_right (by omega) hp

/-- What Ldexp answers. -/
theorem ld_units {Y ly LY k r : Nat} (hy : FX Y ly LY) (hr : r < 9218868437227405312) (hu : unitsOf r = Y * 2 ^ k) : scW (4503599627370496 + ly) ((LY : Int) + (k : Int) - 51) = r := by
  have h := nearest_small hr
  have e52 : (4503599627370496 : Nat) = 2 ^ 52 := by decide
  have e1 := nearest_scale false (unitsOf r) 52 (-1126)
  have e2 := nearest_scale false (4503599627370496 + ly) (LY + k) (-1126)
  rw [Nat.shiftLeft_eq, ← e52, hu, show Y * 2 ^ k * 4503599627370496 = Y * 4503599627370496 * 2 ^ k by ac_rfl, hy.2, Nat.mul_assoc, ← Nat.pow_add, ← Nat.shiftLeft_eq, e2, ← hu, show (-1126 : Int) + ((52 : Nat) : Int) = -1074 by omega, h] at e1
  unfold scW
  rw [show (LY : Int) + (k : Int) - 51 - 1075 = -1126 + ((LY + k : Nat) : Int) by omega]
  exact e1

theorem uv_small {r : Nat} (h : r < 9218868437227405312) : uv r = (unitsOf r : Int) := by
  unfold uv; rw [sgn_small (by omega), rung_small (by omega)]; rfl

theorem sub_units {r s d : Nat} (hr : r < 9218868437227405312) (hs : s < 9218868437227405312) (hd : d < 9218868437227405312) (h : unitsOf s ≤ unitsOf r) (e : unitsOf d = unitsOf r - unitsOf s) : fsub r s = d := by
  rw [sub_fin (isF_small hr) (isF_small hs), sgn_small (x := r) (by omega), uv_small hr, uv_small hs, Bool.false_and]
  unfold roundU
  have e1 : (unitsOf r : Int) - (unitsOf s : Int) = (unitsOf d : Int) := by omega
  rw [e1, Int.natAbs_natCast]
  have e2 : (if (unitsOf d : Int) = 0 then false else decide ((unitsOf d : Int) < 0)) = false := by
    split
    · rfl
    · exact decide_eq_false (by omega)
  rw [e2]
  exact nearest_small hd

theorem sub_keeps_mod {R Y k : Nat} (h : Y * 2 ^ k ≤ R) : (R - Y * 2 ^ k) % Y = R % Y := by
  have := Nat.sub_mul_mod (x := R) (k := 2 ^ k) (n := Y) (by exact h)
  exact this

theorem sub_is_mod {R Y k : Nat} (h : Y * 2 ^ k ≤ R) (h2 : R < Y * 2 ^ (k + 1)) : R - Y * 2 ^ k = R % (Y * 2 ^ k) := by
  rw [Nat.pow_succ, ← Nat.mul_assoc] at h2
  rw [Nat.mod_eq_sub_mod h, Nat.mod_eq_of_lt (by omega)]

/-- One step of the remainder. -/
theorem mod_step {R Y lx LX ly LY : Nat} (hR : Rp R) (hY : Rp Y) (hY0 : 0 < Y) (hx : FX R lx LX) (hy : FX Y ly LY) (h : Y ≤ R) :
    ∃ k r s : Nat, LX = LY + k + (decide (lx < ly)).toNat ∧ r < 9218868437227405312 ∧ unitsOf r = Y * 2 ^ k ∧ Y * 2 ^ k ≤ R ∧ s < 9218868437227405312 ∧ unitsOf s = R - Y * 2 ^ k ∧ unitsOf s % Y = R % Y ∧ unitsOf s < R := by
  obtain ⟨k, h1, h2, h3⟩ := fx_step hx hy h
  have hp : 0 < Y * 2 ^ k := Nat.mul_pos hY0 (Nat.two_pow_pos k)
  obtain ⟨r, r1, r2⟩ := rp_scale hY h2 hR
  obtain ⟨s, s1, s2⟩ := rp_mod hR (rp_scale hY h2 hR) hp
  rw [← sub_is_mod h2 h3] at s2
  exact ⟨k, r, s, h1, r1, r2, h2, s1, s2, by rw [s2, sub_keeps_mod h2], by omega⟩

/-- What is left of x by y, by whole numbers. -/
def modW (s : Bool) (X Y : Nat) : Nat := double.nearest s (X % Y) (-1074)
def modS (x y : Nat) : Nat :=
  if isN x = true ∨ isN y = true ∨ rung x = 9218868437227405312 ∨ rung y = 0 then nanc
  else if rung y = 9218868437227405312 ∨ rung x = 0 then x
  else modW (sgn x) (unitsOf (rung x)) (unitsOf (rung y))

theorem modW_of {s : Bool} {X Y r : Nat} (hr : r < 9218868437227405312) (h : unitsOf r = X % Y) : modW s X Y = double.word s r := by
  unfold modW
  rw [← h]
  exact nearest_units s hr

theorem fdiv_half {x y : Nat} (hx : x < 9218868437227405312) (hy : y < 9218868437227405312) (h : 2 * unitsOf y = unitsOf x) : fdiv x cTwo = y := by
  have f2 : isF cTwo := isF_small (by decide)
  have fx := isF_small hx
  have e2 : cTwo = wz 2 := by decide +kernel
  have v2 : fv cTwo = 2 := by rw [e2]; exact (fv_wz (z := 2) (by decide)).2
  have u2 : uv cTwo ≠ 0 := fun h => by
    have : fv cTwo = 0 := by unfold fv; rw [h]; grind
    grind
  have hd := div_rd fx f2 u2
  rw [v2] at hd
  have fh := isF_small hy
  have hv : fv y = fv x / 2 := by
    rw [fv_small hy, fv_small hx, ← h, nq_mul]
    have : nq 2 = 2 := rfl
    rw [this]; grind
  have fr : isF (fdiv x cTwo) := hd.fin _ _ fh fh (by rw [hv]; exact Rat.le_refl) (by rw [hv]; exact Rat.le_refl)
  have a := hd.ge _ fh fr (by rw [hv]; exact Rat.le_refl)
  have b := hd.le _ fh fr (by rw [hv]; exact Rat.le_refl)
  have huv : uv (fdiv x cTwo) = uv y := Int.le_antisymm (fv_le.1 b) (fv_le.1 a)
  obtain ⟨m, n, p, q, _, _, _, _, hw⟩ := div_fin fx f2 u2
  rw [sgn_small (x := x) (by omega), sgn_small (x := cTwo) (by decide)] at hw
  generalize (2 * (m * 2 ^ (54 + n.log2 - m.log2) / n) + (m * 2 ^ (54 + n.log2 - m.log2) % n != 0).toNat) * 2 ^ (p + K) = A at hw
  generalize 54 + n.log2 - m.log2 + 1 + q = D at hw
  have ht := nrung_top A D
  have hw2 : fdiv x cTwo = nrung A D := by rw [hw, word_eq]; rfl
  rw [hw2] at fr huv ⊢
  have h1 : uv (nrung A D) = (unitsOf (nrung A D) : Int) := by unfold uv; rw [sgn_small (by omega), rung_small (by omega)]; rfl
  rw [h1, uv_small hy] at huv
  exact unitsOf_inj (by omega)

/-- A whole number as a float: exactly. -/
theorem wz_exact {n r : Nat} (hr : r < 9218868437227405312) (h : unitsOf r = n * 2 ^ K) : wz (n : Int) = r := by
  have e := nearest_small hr
  rw [h, ← Nat.shiftLeft_eq, nearest_scale, show (-1074 : Int) + (K : Int) = 0 by rw [K_eq]; omega] at e
  unfold wz
  rw [decide_eq_false (by omega), Int.natAbs_natCast]
  exact e

theorem odd_le {n a m b : Nat} (hn : n % 2 = 1) (h : n * 2 ^ a = m * 2 ^ b) : n ≤ m := by
  by_cases hab : b ≤ a
  · obtain ⟨d, rfl⟩ := Nat.exists_eq_add_of_le hab
    have e1 : n * 2 ^ d = m := by
      refine Nat.eq_of_mul_eq_mul_right (Nat.two_pow_pos b) ?_
      rw [← h, Nat.pow_add]; ac_rfl
    rw [← e1]
    exact Nat.le_mul_of_pos_right _ (Nat.two_pow_pos d)
  · exfalso
    obtain ⟨d, rfl⟩ := Nat.exists_eq_add_of_lt (Nat.lt_of_not_le hab)
    have e1 : n = m * 2 ^ d * 2 := by
      refine Nat.eq_of_mul_eq_mul_right (Nat.two_pow_pos a) ?_
      rw [h, show a + d + 1 = d + 1 + a by omega, Nat.pow_add, Nat.pow_succ]; ac_rfl
    omega

/-- The word of n (odd, or at a place not below zero) has room. -/
theorem rp_units {n Z g : Nat} {e : Int} (hz : Rp Z) (h : n * 2 ^ g = Z) (he : (g : Int) = e + (K : Int)) (ho : n % 2 = 1 ∨ 0 ≤ e) : Rp (n * 2 ^ K) := by
  rcases ho with ho | ho
  · obtain ⟨m, t, m1, t1, em⟩ := rp_parts hz
    have hle := odd_le ho (h.trans em)
    exact rung_of53 n K (by omega) (by rw [K_eq]; omega)
  · obtain ⟨d, rfl⟩ : ∃ d : Nat, e = (d : Int) := ⟨e.toNat, by omega⟩
    refine rp_down (e := d) ?_
    rw [Nat.mul_assoc, ← Nat.pow_add, show K + d = g by omega, h]
    exact hz

/-- A number below the normal ones, made normal. -/
theorem sub_scale52 {x : Nat} (h0 : 0 < x) (h1 : x < 4503599627370496) : ∃ E low, fmul x 4841369599423283200 = E * 4503599627370496 + low ∧ low < 4503599627370496 ∧ 1 ≤ E ∧ E ≤ 52 ∧ unitsOf (E * 4503599627370496 + low) = unitsOf x * 4503599627370496 := by
  have hx0 : x ≠ 0 := by omega
  obtain ⟨L, hL⟩ : ∃ L, L = x.log2 := ⟨_, rfl⟩
  have l1 : 2 ^ L ≤ x := by rw [hL]; exact Nat.log2_self_le hx0
  have l2 : x < 2 ^ (L + 1) := by rw [hL]; exact Nat.lt_log2_self
  have l3 : L < 52 := by rw [hL]; exact (Nat.log2_lt hx0).2 h1
  have e52 : (2 : Nat) ^ 52 = 4503599627370496 := by decide
  have p1 : 2 ^ L * 2 ^ (52 - L) = 4503599627370496 := by rw [← Nat.pow_add, show L + (52 - L) = 52 by omega]
  have p2 : 2 ^ (L + 1) * 2 ^ (52 - L) = 9007199254740992 := by rw [← Nat.pow_add, show L + 1 + (52 - L) = 53 by omega]
  have hp := Nat.two_pow_pos (52 - L)
  have m1 : 2 ^ L * 2 ^ (52 - L) ≤ x * 2 ^ (52 - L) := Nat.mul_le_mul_right _ l1
  have m2 : x * 2 ^ (52 - L) < 2 ^ (L + 1) * 2 ^ (52 - L) := Nat.mul_lt_mul_of_pos_right l2 hp
  rw [p1] at m1
  rw [p2] at m2
  obtain ⟨low, hlow⟩ : ∃ low, x * 2 ^ (52 - L) = 4503599627370496 + low := ⟨x * 2 ^ (52 - L) - 4503599627370496, by omega⟩
  have hl : low < 4503599627370496 := by omega
  have hu : unitsOf x = x := by unfold unitsOf; rw [if_pos h1]
  obtain ⟨J, hJ⟩ : ∃ J : Nat, J = 1075 := ⟨_, rfl⟩
  have hub := units_norm (E := J) (low := 0) (by omega) (by omega)
  have hJB : 4841369599423283200 = J * 4503599627370496 := by omega
  rw [Nat.add_zero, Nat.add_zero, ← hJB] at hub
  have hplace : -1074 - (K : Int) + ((52 + (J - 1) : Nat) : Int) = -1022 := by rw [K_eq]; omega
  have hplace2 : ((1 + L : Nat) : Int) - 1075 + ((52 - L : Nat) : Int) = -1022 := by omega
  clear hJ hJB
  generalize J - 1 = T at *
  have hmul : fmul x 4841369599423283200 = scW (4503599627370496 + low) ((1 + L : Nat) : Int) := by
    rw [mul_fin (isF_small (by omega)) (isF_small (by decide)), sgn_small (by omega), sgn_small (by decide), rung_small (by omega), rung_small (by decide), ← nearest_word, hu, hub]
    have e1 : x * (4503599627370496 * 2 ^ T) = x <<< (52 + T) := by
      rw [Nat.shiftLeft_eq, Nat.pow_add, e52]
    rw [e1, nearest_scale, hplace]
    unfold scW
    rw [← hlow, ← Nat.shiftLeft_eq, nearest_scale, hplace2]
    rfl
  clear hub
  refine ⟨1 + L, low, ?_, hl, by omega, by omega, ?_⟩
  · rw [hmul, scW_norm hl rfl (by omega) (by omega)]
  · rw [units_norm (by omega) hl, ← hlow, hu, Nat.mul_assoc, ← Nat.pow_add, show 52 - L + (1 + L - 1) = 52 by omega, e52]

end Go.Fl
