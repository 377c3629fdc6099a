/- Rounding keeps the order: sums, products and quotients of floats. -/
import Derived.Test.YtllphokepjekpaaFlAll
namespace Go.Fl
open Ieee

theorem near_dn {m d s : Nat} (h : nrung m d < 9218868437227405312) (hs : s < nrung m d) : ∃ M j, M < 18014398509481984 ∧ unitsOf s + unitsOf (nrung m d) ≤ M * 2 ^ j ∧ M * 2 ^ j * 2 ^ d ≤ 2 * m := by
  obtain ⟨k, t, h1, h2, h3, h4, h5, h6, h7⟩ := nearest_at false m d
  unfold nrung at *
  rw [h1, rung_word'] at h hs ⊢
  rw [Nat.min_eq_left (by omega)] at hs ⊢
  have he : (2 : Nat) ^ (t + d) = 2 ^ t * 2 ^ d := Nat.pow_add ..
  have hu := unitsOf_lt hs
  rw [units_at h2 h3] at hu ⊢
  by_cases hm : k * 2 ^ t * 2 ^ d ≤ m
  · refine ⟨k, t + 1, by omega, ?_, ?_⟩
    · rw [Nat.pow_succ, show k * (2 ^ t * 2) = 2 * (k * 2 ^ t) by ac_rfl]; omega
    · rw [Nat.pow_succ, show k * (2 ^ t * 2) * 2 ^ d = 2 * (k * 2 ^ t * 2 ^ d) by ac_rfl]; omega
  · have hk0 : 1 ≤ k := by
      rcases Nat.eq_zero_or_pos k with e | e
      · subst e; simp at hm
      · exact e
    have hk : 0 < t → 4503599627370496 ≤ k - 1 := fun ht => by
      have h8 := h6 ht
      have h9 := h3 ht
      refine Nat.le_of_not_lt fun hlt => hm ?_
      have : k = 4503599627370496 := by omega
      rw [this, Nat.mul_assoc, ← he]
      exact h8
    have hs2 : unitsOf s ≤ (k - 1) * 2 ^ t := by
      rw [← units_at (by omega) hk]
      exact unitsOf_le (by omega)
    obtain ⟨c, rfl⟩ : ∃ c, k = c + 1 := ⟨k - 1, by omega⟩
    refine ⟨2 * c + 1, t, by omega, ?_, ?_⟩
    · rw [show c + 1 - 1 = c by omega] at hs2
      rw [Nat.add_mul, Nat.add_mul]
      rw [Nat.mul_assoc]
      omega
    · rw [Nat.mul_assoc, ← he]
      have e1 : 2 * (c + 1) * 2 ^ (t + d) = (2 * c + 1) * 2 ^ (t + d) + 2 ^ (t + d) := by
        rw [show 2 * (c + 1) = (2 * c + 1) + 1 by omega, Nat.add_mul (2 * c + 1), Nat.one_mul]
      omega

theorem near_up {m d s : Nat} (hs : nrung m d < s) (hs2 : s < 9218868437227405312) : ∃ M j, M < 18014398509481984 ∧ M * 2 ^ j ≤ unitsOf s + unitsOf (nrung m d) ∧ 2 * m ≤ M * 2 ^ j * 2 ^ d := by
  obtain ⟨k, t, h1, h2, h3, h4, h5, h6, h7⟩ := nearest_at false m d
  unfold nrung at *
  rw [h1, rung_word'] at hs ⊢
  rw [Nat.min_eq_left (by omega)] at hs ⊢
  have he : (2 : Nat) ^ (t + d) = 2 ^ t * 2 ^ d := Nat.pow_add ..
  have hu := unitsOf_lt hs
  rw [units_at h2 h3] at hu ⊢
  by_cases hm : m ≤ k * 2 ^ t * 2 ^ d
  · refine ⟨k, t + 1, by omega, ?_, ?_⟩
    · rw [Nat.pow_succ, show k * (2 ^ t * 2) = 2 * (k * 2 ^ t) by ac_rfl]; omega
    · rw [Nat.pow_succ, show k * (2 ^ t * 2) * 2 ^ d = 2 * (k * 2 ^ t * 2 ^ d) by ac_rfl]; omega
  · have hk : k + 1 ≤ 9007199254740992 := by
      refine Nat.le_of_not_lt fun hlt => hm ?_
      have : k = 9007199254740992 := by omega
      rw [this, Nat.mul_assoc, ← he]
      exact Nat.le_of_lt h7
    have hs2 : (k + 1) * 2 ^ t ≤ unitsOf s := by
      rw [← units_at hk (fun ht => by have := h3 ht; omega)]
      exact unitsOf_le (by omega)
    refine ⟨2 * k + 1, t, by omega, ?_, ?_⟩
    · rw [Nat.add_mul] at hs2 ⊢
      rw [Nat.mul_assoc]
      omega
    · rw [Nat.mul_assoc, ← he, Nat.add_mul, Nat.one_mul]
      omega

/-- r is nearest to q: no other word's number is nearer. -/
structure Nst (q : Rat) (r : Nat) : Prop where
  dn : isF r → ∀ f, isF f → fv f < fv r → fv f + fv r ≤ 2 * q
  up : isF r → ∀ f, isF f → fv r < fv f → 2 * q ≤ fv f + fv r

theorem Nst.mono {q q' : Rat} {r r' : Nat} (h : Nst q r) (h' : Nst q' r') (hr : isF r) (hr' : isF r') (hq : q < q') : fv r ≤ fv r' := by
  rw [← Rat.not_lt]
  intro hlt
  have h1 := h.dn hr r' hr' hlt
  have h2 := h'.up hr' r hr hlt
  grind

theorem fvU (f : Nat) : fv f * Uq = if sgn f then -nq (unitsOf (rung f)) else nq (unitsOf (rung f)) := by
  rw [fv_mul]
  unfold uv nq
  cases sgn f
  · rfl
  · simp only [if_true]; rw [Rat.intCast_neg]
theorem nq_lt {a b : Nat} : nq a < nq b ↔ a < b := by
  have := nq_le (a := b) (b := a)
  rw [← Rat.not_le, this]; omega

theorem nst_word (s : Bool) (m d : Nat) (q0 : Rat) (h0 : 0 ≤ q0)
    (hge : ∀ M j, M < 18014398509481984 → M * 2 ^ j * 2 ^ d ≤ 2 * m → nq (M * 2 ^ j) ≤ q0 * (2 * Uq))
    (hle : ∀ M j, M < 18014398509481984 → 2 * m ≤ M * 2 ^ j * 2 ^ d → q0 * (2 * Uq) ≤ nq (M * 2 ^ j)) : Nst (if s then -q0 else q0) (double.word s (nrung m d)) := by
  have htop := nrung_top m d
  have hU := Uq_pos
  have dnA : nrung m d < 9218868437227405312 → ∀ t, t < nrung m d → nq (unitsOf t) + nq (unitsOf (nrung m d)) ≤ q0 * (2 * Uq) := fun h t ht => by
    obtain ⟨M, j, hM, a, b⟩ := near_dn h ht
    have := nq_le.2 a
    rw [nq_add] at this
    exact Rat.le_trans this (hge M j hM b)
  have upA : ∀ t, t < 9218868437227405312 → nrung m d < t → q0 * (2 * Uq) ≤ nq (unitsOf t) + nq (unitsOf (nrung m d)) := fun t ht2 ht => by
    obtain ⟨M, j, hM, a, b⟩ := near_up ht ht2
    have := nq_le.2 a
    rw [nq_add] at this
    exact Rat.le_trans (hle M j hM b) this
  have hF := isF_word_iff s htop
  have hrung := rung_word s (r := nrung m d) (by omega)
  have hsgn := sgn_word s (r := nrung m d) (by omega)
  have hv := fvU (double.word s (nrung m d))
  rw [hrung, hsgn] at hv
  have hz : (0 : Rat) ≤ q0 * Uq := Rat.mul_nonneg h0 (Rat.le_of_lt hU)
  clear hge hle
  generalize hR : double.word s (nrung m d) = R at *
  generalize nrung m d = r at *
  have hmul : ∀ {a b : Rat}, a < b → a * Uq < b * Uq := fun h => Rat.mul_lt_mul_of_pos_right h hU
  have hu0 : nq (unitsOf 0) = 0 := by rw [unitsOf_zero]; rfl
  have hnr := nq_nonneg (unitsOf r)
  constructor
  · intro hr f hf hlt
    have hlt' := hmul hlt
    have hfv := fvU f
    have hr' := hF.1 hr
    have hnf := nq_nonneg (unitsOf (rung f))
    refine le_of_mul_le hU ?_
    rw [Rat.add_mul, hv, hfv]
    rw [hv, hfv] at hlt'
    unfold isF at hf
    cases s
    · simp only [Bool.false_eq_true, if_false] at *
      cases hs : sgn f
      · simp only [hs, Bool.false_eq_true, if_false] at *
        have := dnA hr' _ (unitsOf_lt_iff.1 (nq_lt.1 hlt'))
        grind
      · simp only [hs, if_true] at *
        by_cases h00 : r = 0
        · subst h00; grind
        · have := dnA hr' 0 (by omega)
          grind
    · simp only [if_true] at *
      cases hs : sgn f
      · simp only [hs, Bool.false_eq_true, if_false] at *
        grind
      · simp only [hs, if_true] at *
        have h9 : nq (unitsOf r) < nq (unitsOf (rung f)) := by grind
        have := upA _ hf (unitsOf_lt_iff.1 (nq_lt.1 h9))
        grind
  · intro hr f hf hlt
    have hlt' := hmul hlt
    have hfv := fvU f
    have hr' := hF.1 hr
    have hnf := nq_nonneg (unitsOf (rung f))
    refine le_of_mul_le hU ?_
    rw [Rat.add_mul, hv, hfv]
    rw [hv, hfv] at hlt'
    unfold isF at hf
    cases s
    · simp only [Bool.false_eq_true, if_false] at *
      cases hs : sgn f
      · simp only [hs, Bool.false_eq_true, if_false] at *
        have := upA _ hf (unitsOf_lt_iff.1 (nq_lt.1 hlt'))
        grind
      · simp only [hs, if_true] at *
        grind
    · simp only [if_true] at *
      cases hs : sgn f
      · simp only [hs, Bool.false_eq_true, if_false] at *
        by_cases h00 : r = 0
        · subst h00; grind
        · have := dnA hr' 0 (by omega)
          grind
      · simp only [hs, if_true] at *
        have h9 : nq (unitsOf (rung f)) < nq (unitsOf r) := by grind
        have := dnA hr' _ (unitsOf_lt_iff.1 (nq_lt.1 h9))
        grind

/-- A number with an exact form. -/
theorem nst_exact (s : Bool) (m d : Nat) (q0 : Rat) (hq : q0 * (P2 d * Uq) = nq m) : Nst (if s then -q0 else q0) (double.word s (nrung m d)) := by
  have hp := Rat.mul_pos (P2_pos d) Uq_pos
  have h0 : 0 ≤ q0 := by
    refine le_of_mul_le hp ?_
    rw [hq]
    have := nq_nonneg m
    grind
  have hP := P2_pos d
  have k2 : nq 2 = 2 := rfl
  refine nst_word s m d q0 h0 (fun M j _ h => ?_) (fun M j _ h => ?_)
  · have h1 := nq_le.2 h
    rw [nq_mul, nq_mul 2, ← hq, k2, nq_P2] at h1
    refine le_of_mul_le hP ?_
    grind
  · have h1 := nq_le.2 h
    rw [nq_mul 2, nq_mul (M * 2 ^ j), ← hq, k2, nq_P2] at h1
    refine le_of_mul_le hP ?_
    grind

theorem roundU_nst (z : Bool) (n : Int) (q : Rat) (hq : q * Uq = (n : Rat)) : Nst q (roundU z n) := by
  unfold roundU
  have e : (-1074 : Int) = -1074 - ((0 : Nat) : Int) := rfl
  rw [e, nearest_word]
  have hu := Uq_pos
  have key : ∀ s : Bool, (n = 0 ∨ s = decide (n < 0)) → Nst q (double.word s (nrung n.natAbs 0)) := fun s hs => by
    have hn := natAbs_sgn n s hs
    have h1 := nst_exact s n.natAbs 0 (if s then -q else q) (by
      rw [P2_zero]
      have hr : ((n : Int) : Rat) = if s then -nq n.natAbs else nq n.natAbs := by
        conv => lhs; rw [← hn]
        unfold nq
        cases s
        · rfl
        · simp only [if_true]; rw [Rat.intCast_neg]
      rw [hr] at hq
      cases s
      · simp only [Bool.false_eq_true, if_false] at *; grind
      · simp only [if_true] at *; grind)
    cases s
    · simpa using h1
    · simp only [if_true] at h1
      rwa [Rat.neg_neg] at h1
  refine key _ ?_
  by_cases h : n = 0
  · exact .inl h
  · rw [if_neg h]; exact .inr rfl

theorem add_nst {x y : Nat} (hx : isF x) (hy : isF y) : Nst (fv x + fv y) (fadd x y) := by
  rw [add_fin hx hy]
  refine roundU_nst _ _ _ ?_
  have h1 := fv_mul x
  have h2 := fv_mul y
  rw [Rat.intCast_add]
  grind
theorem sub_nst {x y : Nat} (hx : isF x) (hy : isF y) : Nst (fv x - fv y) (fsub x y) := by
  rw [sub_fin hx hy]
  refine roundU_nst _ _ _ ?_
  have h1 := fv_mul x
  have h2 := fv_mul y
  rw [Rat.intCast_sub]
  grind
theorem mul_nst {x y : Nat} (hx : isF x) (hy : isF y) : Nst (fv x * fv y) (fmul x y) := by
  rw [mul_fin hx hy]
  have h1 := fvU x
  have h2 := fvU y
  have h := nst_exact (sgn x ^^ sgn y) (unitsOf (rung x) * unitsOf (rung y)) K (fa x * fa y) (by
    rw [P2_K, nq_mul]
    unfold fa
    have := Uq_ne
    grind)
  have e : (if (sgn x ^^ sgn y) then -(fa x * fa y) else fa x * fa y) = fv x * fv y := by
    rw [fv_fa x, fv_fa y]
    cases sgn x <;> cases sgn y <;> simp <;> grind
  rwa [e] at h

/-- A quotient's digits tell it apart from every number of 54 bits. -/
theorem quot_cmp2 {κ m n a b S more M j : Nat} (hM : M < 18014398509481984) (hn : 0 < n) (hD : 9007199254740992 * n ≤ m * 2 ^ more) (hS : S = more + 1 + b) :
    let D := m * 2 ^ more
    let Q := 2 * (D / n) + (D % n != 0).toNat
    ((M * 2 ^ j) * (n * 2 ^ b) ≤ (m * 2 ^ a) * 2 ^ κ ↔ M * 2 ^ (j + S) ≤ Q * 2 ^ (a + κ)) ∧ ((m * 2 ^ a) * 2 ^ κ ≤ (M * 2 ^ j) * (n * 2 ^ b) ↔ Q * 2 ^ (a + κ) ≤ M * 2 ^ (j + S)) := by
  intro D Q
  have hW := Nat.two_pow_pos (a + κ)
  have hdm : n * (D / n) + D % n = D := Nat.div_add_mod D n
  have hml : D % n < n := Nat.mod_lt _ hn
  have hmore := Nat.two_pow_pos (more + 1)
  have e1 : ((M * 2 ^ j) * (n * 2 ^ b)) * 2 ^ (more + 1) = n * (M * 2 ^ (j + S)) := by
    have h0 : 2 ^ (j + S) = 2 ^ j * 2 ^ b * 2 ^ (more + 1) := by rw [hS, show j + (more + 1 + b) = j + b + (more + 1) by omega, Nat.pow_add, Nat.pow_add]
    rw [h0]
    generalize 2 ^ (more + 1) = p1
    generalize 2 ^ j = p2
    generalize 2 ^ b = p3
    ac_rfl
  have e2 : ((m * 2 ^ a) * 2 ^ κ) * 2 ^ (more + 1) = 2 * D * 2 ^ (a + κ) := by
    show _ = 2 * (m * 2 ^ more) * 2 ^ (a + κ)
    have h0 : 2 ^ (a + κ) = 2 ^ a * 2 ^ κ := Nat.pow_add ..
    have h1 : 2 ^ (more + 1) = 2 ^ more * 2 := Nat.pow_succ ..
    rw [h0, h1]
    generalize 2 ^ more = p1
    generalize 2 ^ a = p2
    generalize 2 ^ κ = p3
    ac_rfl
  have l1 : ((M * 2 ^ j) * (n * 2 ^ b) ≤ (m * 2 ^ a) * 2 ^ κ ↔ n * (M * 2 ^ (j + S)) ≤ 2 * D * 2 ^ (a + κ)) := by
    rw [← e1, ← e2]; exact (Nat.mul_le_mul_right_iff hmore).symm
  have l2 : ((m * 2 ^ a) * 2 ^ κ ≤ (M * 2 ^ j) * (n * 2 ^ b) ↔ 2 * D * 2 ^ (a + κ) ≤ n * (M * 2 ^ (j + S))) := by
    rw [← e1, ← e2]; exact (Nat.mul_le_mul_right_iff hmore).symm
  rw [l1, l2]
  have hq0 : 9007199254740992 ≤ D / n := by rw [Nat.le_div_iff_mul_le hn]; exact hD
  by_cases hc : a + κ + 1 ≤ j + S
  · obtain ⟨c, hcc⟩ : ∃ c, M * 2 ^ (j + S) = (2 * c) * 2 ^ (a + κ) := ⟨M * 2 ^ (j + S - (a + κ + 1)), by
      have h0 : 2 ^ (j + S) = 2 ^ (j + S - (a + κ + 1)) * 2 * 2 ^ (a + κ) := by
        rw [← Nat.pow_succ, ← Nat.pow_add]; congr 1; omega
      rw [h0]
      generalize 2 ^ (a + κ) = p1
      generalize 2 ^ (j + S - (a + κ + 1)) = p2
      ac_rfl⟩
    rw [hcc]
    have f1 : n * (2 * c * 2 ^ (a + κ)) ≤ 2 * D * 2 ^ (a + κ) ↔ n * c ≤ D := by
      rw [show n * (2 * c * 2 ^ (a + κ)) = (2 * (n * c)) * 2 ^ (a + κ) by ac_rfl, Nat.mul_le_mul_right_iff hW]; omega
    have f2 : 2 * D * 2 ^ (a + κ) ≤ n * (2 * c * 2 ^ (a + κ)) ↔ D ≤ n * c := by
      rw [show n * (2 * c * 2 ^ (a + κ)) = (2 * (n * c)) * 2 ^ (a + κ) by ac_rfl, Nat.mul_le_mul_right_iff hW]; omega
    rw [f1, f2, Nat.mul_le_mul_right_iff hW, Nat.mul_le_mul_right_iff hW]
    have g1 : n * c ≤ D ↔ c ≤ D / n := by rw [Nat.le_div_iff_mul_le hn, Nat.mul_comm]
    have g2 : D ≤ n * c ↔ 2 * (D / n) + (D % n != 0).toNat ≤ 2 * c := by
      by_cases hr : D % n = 0
      · rw [hr]
        have : D = n * (D / n) := by omega
        constructor
        · intro h
          have : n * (D / n) ≤ n * c := by omega
          have := Nat.le_of_mul_le_mul_left this hn
          simp; omega
        · intro h
          simp at h
          have : n * (D / n) ≤ n * c := Nat.mul_le_mul_left _ (by omega)
          omega
      · have hb : (D % n != 0).toNat = 1 := by simp [hr]
        rw [hb]
        constructor
        · intro h
          rcases Nat.lt_or_ge (D / n) c with h3 | h3
          · omega
          · have : n * c ≤ n * (D / n) := Nat.mul_le_mul_left _ h3
            omega
        · intro h
          have : n * (D / n + 1) ≤ n * c := Nat.mul_le_mul_left _ (by omega)
          rw [Nat.mul_add] at this
          omega
    refine ⟨g1.trans ?_, g2⟩
    show _ ↔ 2 * c ≤ 2 * (D / n) + (D % n != 0).toNat
    cases (D % n != 0) <;> simp <;> omega
  · have hz : M * 2 ^ (j + S) < 18014398509481984 * 2 ^ (a + κ) := by
      have h3 : 2 ^ (j + S) ≤ 2 ^ (a + κ) := Nat.pow_le_pow_right (by omega) (by omega)
      have h4 : M * 2 ^ (j + S) ≤ M * 2 ^ (a + κ) := Nat.mul_le_mul_left _ h3
      have h5 : M * 2 ^ (a + κ) < 18014398509481984 * 2 ^ (a + κ) := Nat.mul_lt_mul_of_pos_right hM hW
      omega
    have hQ : 18014398509481984 * 2 ^ (a + κ) ≤ Q * 2 ^ (a + κ) := Nat.mul_le_mul_right _ (by show _ ≤ 2 * (D / n) + _; omega)
    have hD2 : 9007199254740992 * n * 2 ^ (a + κ) ≤ D * 2 ^ (a + κ) := Nat.mul_le_mul_right _ hD
    have hnz : n * (M * 2 ^ (j + S)) < n * (18014398509481984 * 2 ^ (a + κ)) := Nat.mul_lt_mul_of_pos_left hz hn
    have e3 : n * (18014398509481984 * 2 ^ (a + κ)) = 2 * (9007199254740992 * n * 2 ^ (a + κ)) := by
      rw [show (18014398509481984 : Nat) = 2 * 9007199254740992 from rfl]; ac_rfl
    have e4 : 2 * D * 2 ^ (a + κ) = 2 * (D * 2 ^ (a + κ)) := by ac_rfl
    constructor
    · constructor <;> intro _ <;> omega
    · constructor <;> intro _ <;> omega

theorem div_nst {x y : Nat} (hx : isF x) (hy : isF y) (h0 : uv y ≠ 0) : Nst (fv x / fv y) (fdiv x y) := by
  obtain ⟨m, n, a, b, hm, hn, hm53, hn0, hd⟩ := div_fin hx hy h0
  rw [hd, fv_div, ← hm, ← hn]
  generalize (sgn x ^^ sgn y) = s
  clear hd h0 hx hy
  have p5 := nq_pos (Nat.mul_pos hn0 (Nat.two_pow_pos b))
  have pU := Uq_pos
  have k2 : nq 2 = 2 := rfl
  by_cases hm0 : m = 0
  · subst hm0
    have hQ : (2 * (0 * 2 ^ (54 + n.log2 - (0 : Nat).log2) / n) + (0 * 2 ^ (54 + n.log2 - (0 : Nat).log2) % n != 0).toNat) * 2 ^ (a + K) = 0 := by simp
    rw [hQ]
    refine nst_exact s _ _ _ ?_
    have : nq (0 * 2 ^ a) = 0 := by rw [Nat.zero_mul]; rfl
    rw [this]
    have : nq 0 = 0 := rfl
    rw [this]
    grind
  · obtain ⟨more, hmore⟩ : ∃ k, k = 54 + n.log2 - m.log2 := ⟨_, rfl⟩
    rw [← hmore]
    have hlm : m.log2 < 53 := (Nat.log2_lt hm0).2 hm53
    have hD : 9007199254740992 * n ≤ m * 2 ^ more := by
      have h1 : 2 ^ m.log2 ≤ m := Nat.log2_self_le hm0
      have h2 : n < 2 ^ (n.log2 + 1) := Nat.lt_log2_self
      have h3 : 2 ^ (m.log2 + more) = 9007199254740992 * 2 ^ (n.log2 + 1) := by
        rw [hmore, show m.log2 + (54 + n.log2 - m.log2) = 53 + (n.log2 + 1) by omega, Nat.pow_add]
      have h4 : 2 ^ m.log2 * 2 ^ more ≤ m * 2 ^ more := Nat.mul_le_mul_right _ h1
      rw [← Nat.pow_add, h3] at h4
      have h5 : 9007199254740992 * n ≤ 9007199254740992 * 2 ^ (n.log2 + 1) := Nat.mul_le_mul_left _ (Nat.le_of_lt h2)
      exact Nat.le_trans h5 h4
    clear hmore hlm
    have cmp := fun (M j : Nat) (hM : M < 18014398509481984) => quot_cmp2 (κ := K + 1) (a := a) (b := b) (S := more + 1 + b) (M := M) (j := j) hM hn0 hD rfl
    obtain ⟨Q, hQ⟩ : ∃ Q, Q = 2 * (m * 2 ^ more / n) + (m * 2 ^ more % n != 0).toNat := ⟨_, rfl⟩
    simp only [← hQ] at cmp
    rw [← hQ]
    have hqn : nq (m * 2 ^ a) / nq (n * 2 ^ b) * nq (n * 2 ^ b) = nq (m * 2 ^ a) := div_cancel p5
    have hq0 : 0 ≤ nq (m * 2 ^ a) / nq (n * 2 ^ b) := by
      refine le_of_mul_le p5 ?_
      rw [hqn]
      have := nq_nonneg (m * 2 ^ a)
      grind
    have e1 : ∀ M j : Nat, M * 2 ^ j * 2 ^ (more + 1 + b) = M * 2 ^ (j + (more + 1 + b)) := fun M j => by rw [Nat.mul_assoc, ← Nat.pow_add]
    have e2 : 2 * (Q * 2 ^ (a + K)) = Q * 2 ^ (a + (K + 1)) := by
      rw [show a + (K + 1) = a + K + 1 by omega, Nat.pow_succ]; generalize 2 ^ (a + K) = g; rw [Nat.mul_comm, Nat.mul_assoc]
    have e3 : nq (m * 2 ^ a * 2 ^ (K + 1)) = nq (m * 2 ^ a) * (2 * Uq) := by
      rw [nq_mul, Nat.pow_succ, nq_mul (2 ^ K), nq_U, k2, Rat.mul_comm Uq]
    refine nst_word s _ _ _ hq0 (fun M j hM h => ?_) (fun M j hM h => ?_)
    · rw [e1, e2] at h
      have h1 := nq_le.2 ((cmp M j hM).1.2 h)
      rw [nq_mul, e3] at h1
      refine le_of_mul_le p5 ?_
      have : nq (m * 2 ^ a) / nq (n * 2 ^ b) * (2 * Uq) * nq (n * 2 ^ b) = nq (m * 2 ^ a) / nq (n * 2 ^ b) * nq (n * 2 ^ b) * (2 * Uq) := by grind
      rw [this, hqn]
      exact h1
    · rw [e1, e2] at h
      have h1 := nq_le.2 ((cmp M j hM).2.2 h)
      rw [nq_mul (M * 2 ^ j), e3] at h1
      refine le_of_mul_le p5 ?_
      have : nq (m * 2 ^ a) / nq (n * 2 ^ b) * (2 * Uq) * nq (n * 2 ^ b) = nq (m * 2 ^ a) / nq (n * 2 ^ b) * nq (n * 2 ^ b) * (2 * Uq) := by grind
      rw [this, hqn]
      exact h1

/-! The order kept. -/

/-- Numbers that are a word's round to it. -/
theorem rd_self {q : Rat} {r f : Nat} (h : Rd q r) (hf : isF f) (hq : q = fv f) : isF r ∧ fv r = fv f := by
  have hr := h.fin f f hf hf (by rw [hq]; exact Rat.le_refl) (by rw [hq]; exact Rat.le_refl)
  exact ⟨hr, Rat.le_antisymm (h.le f hf hr (by rw [hq]; exact Rat.le_refl)) (h.ge f hf hr (by rw [hq]; exact Rat.le_refl))⟩

/-- Words of one number are alike, but for zeros. -/
theorem fv_eq {x y : Nat} (h : fv x = fv y) : (sgn x = sgn y ∧ rung x = rung y) ∨ (fv x = 0 ∧ rung x = rung y) := by
  have h1 : uv x = uv y := by
    have a := (fv_le (x := x) (y := y)).1 (by rw [h]; exact Rat.le_refl)
    have b := (fv_le (x := y) (y := x)).1 (by rw [h]; exact Rat.le_refl)
    omega
  have hr : rung x = rung y := by
    refine unitsOf_inj ?_
    unfold uv at h1
    split at h1 <;> split at h1 <;> omega
  by_cases hs : sgn x = sgn y
  · exact .inl ⟨hs, hr⟩
  · refine .inr ⟨?_, hr⟩
    have : uv x = 0 := by
      unfold uv at *
      rw [hr] at h1 ⊢
      cases hx : sgn x <;> cases hy : sgn y <;> simp [hx, hy] at * <;> omega
    unfold fv
    rw [this]
    have := Uq_ne
    have e0 : ((0 : Int) : Rat) = 0 := rfl
    rw [e0]; grind

theorem add_mono {x y z : Nat} (hx : isF x) (hy : isF y) (hz : isF z) (h : fv y ≤ fv z) (h1 : isF (fadd x y)) (h2 : isF (fadd x z)) : fv (fadd x y) ≤ fv (fadd x z) := by
  rcases Rat.le_iff_lt_or_eq.1 h with h | h
  · exact (add_nst hx hy).mono (add_nst hx hz) h1 h2 (by grind)
  · rcases fv_eq h with ⟨a, b⟩ | ⟨a, b⟩
    · rw [add_fin hx hy, add_fin hx hz, a]
      have : uv y = uv z := by unfold uv; rw [a, b]
      rw [this]; exact Rat.le_refl
    · have a1 := (rd_self (add_rd hx hy) hx (by rw [a]; grind)).2
      have a2 := (rd_self (add_rd hx hz) hx (by rw [← h, a]; grind)).2
      rw [a1, a2]; exact Rat.le_refl
theorem sub_mono {x y z : Nat} (hx : isF x) (hy : isF y) (hz : isF z) (h : fv y ≤ fv z) (h1 : isF (fsub y x)) (h2 : isF (fsub z x)) : fv (fsub y x) ≤ fv (fsub z x) := by
  rcases Rat.le_iff_lt_or_eq.1 h with h | h
  · exact (sub_nst hy hx).mono (sub_nst hz hx) h1 h2 (by grind)
  · have e : uv y = uv z := by
      have a := (fv_le (x := y) (y := z)).1 (by rw [h]; exact Rat.le_refl)
      have b := (fv_le (x := z) (y := y)).1 (by rw [h]; exact Rat.le_refl)
      omega
    rw [sub_fin hy hx, sub_fin hz hx, e]
    by_cases h0 : uv z - uv x = 0
    · have u := fun s => rd_self (q := 0) (f := 0) (roundU_rd s (uv z - uv x) 0 (by rw [h0]; simp)) fv_zero.1 (by rw [fv_zero.2])
      rw [(u _).2, (u _).2]; exact Rat.le_refl
    · unfold roundU
      rw [if_neg h0, if_neg h0]; exact Rat.le_refl
theorem mul_mono {x y z : Nat} (hx : isF x) (h0 : 0 ≤ fv x) (hy : isF y) (hz : isF z) (h : fv y ≤ fv z) (h1 : isF (fmul x y)) (h2 : isF (fmul x z)) : fv (fmul x y) ≤ fv (fmul x z) := by
  have zero : ∀ w, isF w → fv x * fv w = 0 → fv (fmul x w) = 0 := fun w hw e => by
    have := (rd_self (mul_rd hx hw) fv_zero.1 (by rw [e, fv_zero.2])).2
    rw [this, fv_zero.2]
  rcases Rat.le_iff_lt_or_eq.1 h0 with h0 | h0
  · rcases Rat.le_iff_lt_or_eq.1 h with h | h
    · refine (mul_nst hx hy).mono (mul_nst hx hz) h1 h2 ?_
      have := Rat.mul_lt_mul_of_pos_right h h0
      rw [Rat.mul_comm (fv x), Rat.mul_comm (fv x)]; exact this
    · rcases fv_eq h with ⟨a, b⟩ | ⟨a, b⟩
      · rw [mul_fin hx hy, mul_fin hx hz, a, b]; exact Rat.le_refl
      · rw [zero y hy (by rw [a]; grind), zero z hz (by rw [← h, a]; grind)]; exact Rat.le_refl
  · rw [zero y hy (by rw [← h0]; grind), zero z hz (by rw [← h0]; grind)]; exact Rat.le_refl
theorem mul_mono' {x y z : Nat} (hx : isF x) (h0 : 0 ≤ fv x) (hy : isF y) (hz : isF z) (h : fv y ≤ fv z) (h1 : isF (fmul y x)) (h2 : isF (fmul z x)) : fv (fmul y x) ≤ fv (fmul z x) := by
  have e : ∀ w, isF w → fmul w x = fmul x w := fun w hw => by
    rw [mul_fin hx hw, mul_fin hw hx, Nat.mul_comm, Bool.xor_comm]
  rw [e y hy, e z hz] at *
  exact mul_mono hx h0 hy hz h h1 h2
theorem read_alike {x y : Nat} (hs : sgn x = sgn y) (hr : rung x = rung y) : double.read x = double.read y := by
  have h : ∀ w, double.read w = double.read (double.word (sgn w) (rung w)) := fun w => by
    have e : double.word (sgn w) (rung w) % double.signWeight = w % double.signWeight ∧ double.word (sgn w) (rung w) / double.signWeight % 2 = w / double.signWeight % 2 := by
      have hb := rung_lt_sw w
      rw [word_eq, sw_eq]
      unfold sgn rung at *
      by_cases hc : w / 9223372036854775808 % 2 = 1
      · simp [hc]; try omega
      · simp [hc]; try omega
    unfold Format.read
    simp only [e.1, e.2]
  rw [h x, h y, hs, hr]
theorem div_mono {x y z : Nat} (hx : isF x) (h0 : 0 < fv x) (hy : isF y) (hz : isF z) (h : fv y ≤ fv z) (h1 : isF (fdiv y x)) (h2 : isF (fdiv z x)) : fv (fdiv y x) ≤ fv (fdiv z x) := by
  have hu : uv x ≠ 0 := fun e => by
    have : fv x = 0 := by unfold fv; rw [e]; have := Uq_ne; have e0 : ((0 : Int) : Rat) = 0 := rfl; rw [e0]; grind
    rw [this] at h0
    exact absurd h0 (Rat.lt_irrefl)
  rcases Rat.le_iff_lt_or_eq.1 h with h | h
  · refine (div_nst hy hx hu).mono (div_nst hz hx hu) h1 h2 ?_
    rw [← Rat.not_le, le_iff_mul h0, div_cancel h0, div_cancel h0, Rat.not_le]
    exact h
  · rcases fv_eq h with ⟨a, b⟩ | ⟨a, b⟩
    · have : fdiv y x = fdiv z x := by
        unfold fdiv Format.div
        rw [read_alike a b]
      rw [this]; exact Rat.le_refl
    · have zero : ∀ w, isF w → fv w = 0 → fv (fdiv w x) = 0 := fun w hw e => by
        have hq : fv w / fv x = 0 := by rw [e]; grind
        have := (rd_self (div_rd hw hx hu) fv_zero.1 (by rw [hq, fv_zero.2])).2
        rw [this, fv_zero.2]
      rw [zero y hy a, zero z hz (by rw [← h, a])]; exact Rat.le_refl
end Go.Fl
