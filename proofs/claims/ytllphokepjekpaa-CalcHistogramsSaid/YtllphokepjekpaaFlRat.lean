/- Floats as rational numbers: the operations round the exact answer. -/
import Derived.Test.YtllphokepjekpaaRnd
namespace Go.Fl
open Ieee

/-- The least units to one, as a rational number. -/
def Uq : Rat := ((U : Int) : Rat)
/-- The number that a word stands for. -/
def fv (x : Nat) : Rat := (uv x : Rat) / Uq

theorem Uq_pos : (0 : Rat) < Uq := by
  unfold Uq
  have h := U_pos
  have : ((0 : Int) : Rat) < ((U : Int) : Rat) := Rat.intCast_lt_intCast.2 (by omega)
  simpa using this
theorem Uq_ne : Uq ≠ 0 := by have := Uq_pos; grind
theorem fv_mul (x : Nat) : fv x * Uq = (uv x : Rat) := by
  unfold fv
  have := Uq_ne
  grind

theorem le_of_mul_le {a b c : Rat} (hc : 0 < c) (h : a * c ≤ b * c) : a ≤ b := by
  rcases Rat.le_total (a := a) (b := b) with h1 | h1
  · exact h1
  · have h2 := Rat.mul_le_mul_of_nonneg_right h1 (Rat.le_of_lt hc)
    have h3 : a * c = b * c := Rat.le_antisymm h h2
    have h4 : (a - b) * c = 0 := by grind
    have : a - b = 0 := by
      rcases Rat.mul_eq_zero.1 h4 with h5 | h5
      · exact h5
      · grind
    grind
theorem fv_le {x y : Nat} : fv x ≤ fv y ↔ uv x ≤ uv y := by
  constructor
  · intro h
    have := Rat.mul_le_mul_of_nonneg_right h (Rat.le_of_lt Uq_pos)
    rw [fv_mul, fv_mul] at this
    exact Rat.intCast_le_intCast.1 this
  · intro h
    refine le_of_mul_le Uq_pos ?_
    rw [fv_mul, fv_mul]
    exact Rat.intCast_le_intCast.2 h

/-- 2^d, as a rational number. -/
def P2 (d : Nat) : Rat := ((2 ^ d : Nat) : Int)
theorem P2_pos (d : Nat) : (0 : Rat) < P2 d := by
  unfold P2
  have h := Nat.two_pow_pos d
  have : ((0 : Int) : Rat) < (((2 ^ d : Nat) : Int) : Rat) := Rat.intCast_lt_intCast.2 (by omega)
  simpa using this

/-- q is z / 2^d least units. -/
def Exact (q : Rat) (z : Int) (d : Nat) : Prop := q * (P2 d * Uq) = (z : Rat)

theorem Exact.ge {q : Rat} {z : Int} {d : Nat} (h : Exact q z d) {f : Nat} : fv f ≤ q ↔ uv f * ((2 ^ d : Nat) : Int) ≤ z := by
  have hp : 0 < P2 d * Uq := Rat.mul_pos (P2_pos d) Uq_pos
  have e : fv f * (P2 d * Uq) = ((uv f * ((2 ^ d : Nat) : Int) : Int) : Rat) := by
    rw [Rat.intCast_mul]
    have := fv_mul f
    unfold P2
    grind
  unfold Exact at h
  constructor
  · intro h1
    have := Rat.mul_le_mul_of_nonneg_right h1 (Rat.le_of_lt hp)
    rw [e, h] at this
    exact Rat.intCast_le_intCast.1 this
  · intro h1
    refine le_of_mul_le hp ?_
    rw [e, h]
    exact Rat.intCast_le_intCast.2 h1
theorem Exact.le {q : Rat} {z : Int} {d : Nat} (h : Exact q z d) {f : Nat} : q ≤ fv f ↔ z ≤ uv f * ((2 ^ d : Nat) : Int) := by
  have hp : 0 < P2 d * Uq := Rat.mul_pos (P2_pos d) Uq_pos
  have e : fv f * (P2 d * Uq) = ((uv f * ((2 ^ d : Nat) : Int) : Int) : Rat) := by
    rw [Rat.intCast_mul]
    have := fv_mul f
    unfold P2
    grind
  unfold Exact at h
  constructor
  · intro h1
    have := Rat.mul_le_mul_of_nonneg_right h1 (Rat.le_of_lt hp)
    rw [e, h] at this
    exact Rat.intCast_le_intCast.1 this
  · intro h1
    refine le_of_mul_le hp ?_
    rw [e, h]
    exact Rat.intCast_le_intCast.2 h1

/-- How far a word may lie from the number that it was written for: this part of it .. -/
def eps : Rat := 1 / 4503599627370496
/-- .. half of it. -/
def eps0 : Rat := 1 / 9007199254740992
/-- .. and half a least unit. -/
def eta : Rat := 1 / (2 * Uq)

/-- r is q, rounded. -/
structure RdE (e : Rat) (q : Rat) (r : Nat) : Prop where
  notN : isN r = false
  ge : ∀ f, isF f → isF r → fv f ≤ q → fv f ≤ fv r
  le : ∀ f, isF f → isF r → q ≤ fv f → fv r ≤ fv f
  fin : ∀ f g, isF f → isF g → fv f ≤ q → q ≤ fv g → isF r
  near : ∀ B, -B ≤ q → q ≤ B → isF r → fv r - q ≤ B * e + eta ∧ q - fv r ≤ B * e + eta
abbrev Rd (q : Rat) (r : Nat) : Prop := RdE eps q r

theorem RdE.rd {q : Rat} {r : Nat} (h : RdE eps0 q r) : Rd q r := by
  refine ⟨h.notN, h.ge, h.le, h.fin, fun B h1 h2 hr => ?_⟩
  obtain ⟨a, b⟩ := h.near B h1 h2 hr
  have hB : (0 : Rat) ≤ B := by grind
  have he : eps = eps0 + eps0 := by unfold eps eps0; grind
  have h0 : (0 : Rat) ≤ eps0 := by unfold eps0; grind
  have := Rat.mul_nonneg hB h0
  have e2 : B * eps = B * eps0 + B * eps0 := by rw [he]; grind
  rw [e2]
  constructor <;> grind

theorem isF_word_iff (s : Bool) {r : Nat} (h : r ≤ 9218868437227405312) : isF (double.word s r) ↔ r < 9218868437227405312 := by
  unfold isF
  rw [rung_word s (by omega)]

theorem nrung_top (m d : Nat) : nrung m d ≤ 9218868437227405312 := by
  unfold nrung
  obtain ⟨k, t, h1, _⟩ := nearest_at false m d
  rw [h1, rung_word']
  exact Nat.min_le_right _ _

theorem uv_of_sgn {f : Nat} : uv f = (unitsOf (rung f) : Int) ∨ uv f = -(unitsOf (rung f) : Int) := by
  unfold uv; split
  · exact .inr rfl
  · exact .inl rfl

theorem notN_word (s : Bool) {r : Nat} (h : r ≤ 9218868437227405312) : isN (double.word s r) = false :=
  read_word_infRung_le s (by rw [infRung_eq]; exact h)

/-- A word that is the nearest one. -/
theorem rd_word {q : Rat} (s : Bool) (m d : Nat) (hq : Exact q (if s then -(m : Int) else m) d) : RdE eps0 q (double.word s (nrung m d)) := by
  have htop := nrung_top m d
  have hfin : isF (double.word s (nrung m d)) → uv (double.word s (nrung m d)) = if s then -(unitsOf (nrung m d) : Int) else unitsOf (nrung m d) := fun h => uv_word s ((isF_word_iff s htop).1 h)
  have hcast : ∀ u : Nat, ((u : Int) * ((2 ^ d : Nat) : Int)) = ((u * 2 ^ d : Nat) : Int) := fun u => by rw [Int.natCast_mul]
  -- the words not above it
  have hge : ∀ f, isF f → fv f ≤ q → (s = false → 0 ≤ uv f → rung f ≤ nrung m d) ∧ (s = true → uv f ≤ 0 ∧ nrung m d ≤ rung f) := fun f hf h => by
    have h1 := hq.ge.1 h
    refine ⟨fun hs h0 => ?_, fun hs => ?_⟩
    · subst hs
      refine le_nrung (by unfold isF at hf; omega) ?_
      rw [if_neg (by simp)] at h1
      rcases uv_of_sgn (f := f) with e | e
      · rw [e, hcast] at h1; omega
      · have : unitsOf (rung f) = 0 := by omega
        rw [this]; omega
    · subst hs
      rw [if_pos rfl] at h1
      have hp := Nat.two_pow_pos d
      have hn : uv f ≤ 0 := by
        rcases Int.lt_or_le 0 (uv f) with h2 | h2
        · have := Int.mul_pos h2 (show (0 : Int) < ((2 ^ d : Nat) : Int) by omega)
          omega
        · exact h2
      refine ⟨hn, nrung_le ?_⟩
      rcases uv_of_sgn (f := f) with e | e
      · have : unitsOf (rung f) = 0 := by omega
        rw [e, this] at h1
        omega
      · rw [e, Int.neg_mul, hcast] at h1; omega
  have hle : ∀ f, isF f → q ≤ fv f → (s = true → uv f ≤ 0 → rung f ≤ nrung m d) ∧ (s = false → 0 ≤ uv f ∧ nrung m d ≤ rung f) := fun f hf h => by
    have h1 := hq.le.1 h
    refine ⟨fun hs h0 => ?_, fun hs => ?_⟩
    · subst hs
      refine le_nrung (by unfold isF at hf; omega) ?_
      rw [if_pos rfl] at h1
      rcases uv_of_sgn (f := f) with e | e
      · have : unitsOf (rung f) = 0 := by omega
        rw [this]; omega
      · rw [e, Int.neg_mul, hcast] at h1; omega
    · subst hs
      rw [if_neg (by simp)] at h1
      have hp := Nat.two_pow_pos d
      have hn : 0 ≤ uv f := by
        rcases Int.lt_or_le (uv f) 0 with h2 | h2
        · have := Int.mul_neg_of_neg_of_pos h2 (show (0 : Int) < ((2 ^ d : Nat) : Int) by omega)
          omega
        · exact h2
      refine ⟨hn, nrung_le ?_⟩
      rcases uv_of_sgn (f := f) with e | e
      · rw [e, hcast] at h1; omega
      · have : unitsOf (rung f) = 0 := by omega
        rw [e, this] at h1
        omega
  refine ⟨notN_word s htop, ?_, ?_, ?_, ?_⟩
  · intro f hf hr h
    obtain ⟨a, b⟩ := hge f hf h
    rw [fv_le, hfin hr]
    cases s with
    | false =>
      rw [if_neg (by simp)]
      rcases Int.lt_or_le (uv f) 0 with h2 | h2
      · omega
      · have := unitsOf_le (a rfl h2)
        rcases uv_of_sgn (f := f) with e | e <;> omega
    | true =>
      rw [if_pos rfl]
      obtain ⟨b1, b2⟩ := b rfl
      have := unitsOf_le b2
      rcases uv_of_sgn (f := f) with e | e <;> omega
  · intro f hf hr h
    obtain ⟨a, b⟩ := hle f hf h
    rw [fv_le, hfin hr]
    cases s with
    | true =>
      rw [if_pos rfl]
      rcases Int.lt_or_le 0 (uv f) with h2 | h2
      · omega
      · have := unitsOf_le (a rfl h2)
        rcases uv_of_sgn (f := f) with e | e <;> omega
    | false =>
      rw [if_neg (by simp)]
      obtain ⟨b1, b2⟩ := b rfl
      have := unitsOf_le b2
      rcases uv_of_sgn (f := f) with e | e <;> omega
  · intro f g hf hg h1 h2
    rw [isF_word_iff s htop]
    cases s with
    | true => have := ((hge f hf h1).2 rfl).2; unfold isF at hf; omega
    | false => have := ((hle g hg h2).2 rfl).2; unfold isF at hg; omega
  · intro B hB1 hB2 hr
    obtain ⟨t, n1, n2, n3⟩ := nrung_near ((isF_word_iff s htop).1 hr)
    -- in steps0: 2 |r 2^d - m| ≤ 2^(t+d)
    have hm : fv (double.word s (nrung m d)) * (P2 d * Uq) = (((if s then -((unitsOf (nrung m d) * 2 ^ d : Nat) : Int) else ((unitsOf (nrung m d) * 2 ^ d : Nat) : Int)) : Int) : Rat) := by
      have h1 := fv_mul (double.word s (nrung m d))
      rw [hfin hr] at h1
      have h2 : fv (double.word s (nrung m d)) * (P2 d * Uq) = (fv (double.word s (nrung m d)) * Uq) * P2 d := by grind
      rw [h2, h1]
      unfold P2
      rw [← Rat.intCast_mul]
      cases s <;> simp <;> grind
    have hB : ∃ z : Int, (z = 2 * ((unitsOf (nrung m d) * 2 ^ d : Nat) : Int) - 2 * m) ∧ z ≤ ((2 ^ (t + d) : Nat) : Int) ∧ -((2 ^ (t + d) : Nat) : Int) ≤ z := ⟨_, rfl, by omega, by omega⟩
    obtain ⟨z, hz, z1, z2⟩ := hB
    have hpU : 0 < P2 d * Uq := Rat.mul_pos (P2_pos d) Uq_pos
    have hzq : (2 * (fv (double.word s (nrung m d)) - q)) * (P2 d * Uq) = ((if s then -z else z : Int) : Rat) := by
      unfold Exact at hq
      have e1 : (2 * (fv (double.word s (nrung m d)) - q)) * (P2 d * Uq) = 2 * (fv (double.word s (nrung m d)) * (P2 d * Uq)) - 2 * (q * (P2 d * Uq)) := by grind
      rw [e1, hm, hq, hz]
      cases s
      · simp only [Bool.false_eq_true, if_false]
        rw [Rat.intCast_sub, Rat.intCast_mul, Rat.intCast_mul]; rfl
      · simp only [if_true]
        rw [Rat.intCast_neg, Rat.intCast_neg, Rat.intCast_neg, Rat.intCast_sub, Rat.intCast_mul, Rat.intCast_mul]
        have : ((2 : Int) : Rat) = 2 := rfl
        rw [this]
        grind
    have hstep : ((2 ^ (t + d) : Nat) : Int) * 1 ≤ ((2 ^ (t + d) : Nat) : Int) := by omega
    -- the step itself: at most |q| 2^-52 or one unit
    have hS : (((2 ^ (t + d) : Nat) : Int) : Rat) ≤ 2 * (B * eps0 + eta) * (P2 d * Uq) := by
      have hpe : (2 * (B * eps0 + eta)) * (P2 d * Uq) = B * (P2 d * Uq) * (2 * eps0) + P2 d * ((2 * eta) * Uq) := by grind
      have heta : (2 * eta) * Uq = 1 := by unfold eta; have := Uq_ne; grind
      rw [hpe, heta]
      have hBm : (m : Rat) ≤ B * (P2 d * Uq) := by
        unfold Exact at hq
        cases s with
        | false =>
          rw [if_neg (by simp)] at hq
          have := Rat.mul_le_mul_of_nonneg_right hB2 (Rat.le_of_lt hpU)
          rw [hq] at this
          exact this
        | true =>
          rw [if_pos rfl, Rat.intCast_neg] at hq
          have := Rat.mul_le_mul_of_nonneg_right hB1 (Rat.le_of_lt hpU)
          rw [hq] at this
          have e2 : ((m : Int) : Rat) = (m : Rat) := rfl
          grind
      have hPd := P2_pos d
      have heps : (2 * eps0) * 4503599627370496 = 1 := by unfold eps0; grind
      by_cases ht : 0 < t
      · have h3 := n3 ht
        have h4 : ((4503599627370496 * 2 ^ (t + d) : Nat) : Rat) ≤ (m : Rat) := by
          have := Rat.intCast_le_intCast.2 (show ((4503599627370496 * 2 ^ (t + d) : Nat) : Int) ≤ (m : Int) by omega)
          exact this
        rw [Rat.natCast_mul] at h4
        have e3 : (((2 ^ (t + d) : Nat) : Int) : Rat) = ((2 ^ (t + d) : Nat) : Rat) := rfl
        rw [e3]
        generalize ((2 ^ (t + d) : Nat) : Rat) = g at *
        have h5 : ((4503599627370496 : Nat) : Rat) = 4503599627370496 := rfl
        rw [h5] at h4
        have h6 : 4503599627370496 * g ≤ B * (P2 d * Uq) := Rat.le_trans h4 hBm
        have h7 : (0 : Rat) ≤ 2 * eps0 := by unfold eps0; grind
        have h8 := Rat.mul_le_mul_of_nonneg_right h6 h7
        have h9 : 4503599627370496 * g * (2 * eps0) = g := by
          have : 4503599627370496 * g * (2 * eps0) = g * ((2 * eps0) * 4503599627370496) := by grind
          rw [this, heps]; grind
        grind
      · obtain rfl : t = 0 := by omega
        rw [Nat.zero_add]
        have h0 : (0 : Rat) ≤ B := by grind
        have h7 : (0 : Rat) ≤ 2 * eps0 := by unfold eps0; grind
        have := Rat.mul_nonneg (Rat.mul_nonneg h0 (Rat.le_of_lt hpU)) h7
        have e4 : (((2 ^ d : Nat) : Int) : Rat) = P2 d := rfl
        grind
    have z1' : (z : Rat) ≤ (((2 ^ (t + d) : Nat) : Int) : Rat) := Rat.intCast_le_intCast.2 z1
    have z2' : -(((2 ^ (t + d) : Nat) : Int) : Rat) ≤ (z : Rat) := by rw [← Rat.intCast_neg]; exact Rat.intCast_le_intCast.2 z2
    have k1 : ((if s then -z else z : Int) : Rat) ≤ (((2 ^ (t + d) : Nat) : Int) : Rat) := by
      cases s
      · exact z1'
      · simp only [if_true]; rw [Rat.intCast_neg]; grind
    have k2 : -(((2 ^ (t + d) : Nat) : Int) : Rat) ≤ ((if s then -z else z : Int) : Rat) := by
      cases s
      · exact z2'
      · simp only [if_true]; rw [Rat.intCast_neg]; grind
    constructor
    · have : (2 * (fv (double.word s (nrung m d)) - q)) * (P2 d * Uq) ≤ (2 * (B * eps0 + eta)) * (P2 d * Uq) := by
        rw [hzq]; exact Rat.le_trans k1 hS
      have := le_of_mul_le hpU this
      grind
    · have : (-(2 * (B * eps0 + eta))) * (P2 d * Uq) ≤ (2 * (fv (double.word s (nrung m d)) - q)) * (P2 d * Uq) := by
        rw [hzq]
        have e5 : (-(2 * (B * eps0 + eta))) * (P2 d * Uq) = -(2 * (B * eps0 + eta) * (P2 d * Uq)) := by grind
        rw [e5]
        grind
      have := le_of_mul_le hpU this
      grind

end Go.Fl
