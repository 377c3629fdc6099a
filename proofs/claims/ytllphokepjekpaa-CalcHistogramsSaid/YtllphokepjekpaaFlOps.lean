/- The operations on finite floats round the exact rational answer. -/
import Derived.Test.YtllphokepjekpaaFlRat
import Derived.Test.YtllphokepjekpaaFlRange
namespace Go.Fl
open Ieee

theorem P2_K : P2 K = Uq := rfl
theorem P2_add (a b : Nat) : P2 (a + b) = P2 a * P2 b := by
  unfold P2
  rw [← Rat.intCast_mul, ← Int.natCast_mul, Nat.pow_add]
theorem P2_zero : P2 0 = 1 := rfl

theorem natAbs_sgn (n : Int) (s : Bool) (hs : n = 0 ∨ s = decide (n < 0)) : (if s then -(n.natAbs : Int) else n.natAbs) = n := by
  rcases hs with rfl | rfl
  · cases s <;> rfl
  · by_cases h : n < 0
    · rw [if_pos (decide_eq_true h)]; omega
    · rw [if_neg (by simp; omega)]; omega

theorem roundU_rd (z : Bool) (n : Int) (q : Rat) (hq : q * Uq = (n : Rat)) : Rd q (roundU z n) := by
  unfold roundU
  have e : (-1074 : Int) = -1074 - ((0 : Nat) : Int) := rfl
  rw [e, nearest_word]
  refine (rd_word _ _ _ ?_).rd
  unfold Exact
  rw [natAbs_sgn, P2_zero]
  · grind
  · by_cases h : n = 0
    · exact .inl h
    · rw [if_neg h]; exact .inr rfl

theorem add_rd {x y : Nat} (hx : isF x) (hy : isF y) : Rd (fv x + fv y) (fadd x y) := by
  rw [add_fin hx hy]
  refine roundU_rd _ _ _ ?_
  have h1 := fv_mul x
  have h2 := fv_mul y
  rw [Rat.intCast_add]
  grind
theorem sub_rd {x y : Nat} (hx : isF x) (hy : isF y) : Rd (fv x - fv y) (fsub x y) := by
  rw [sub_fin hx hy]
  refine roundU_rd _ _ _ ?_
  have h1 := fv_mul x
  have h2 := fv_mul y
  rw [Rat.intCast_sub]
  grind

theorem nearest_at_place (s : Bool) (m a b : Nat) : double.nearest s m (-1074 + (a : Int) + (-1074 + (b : Int))) = double.word s (nrung (m * 2 ^ (a + b)) K) := by
  rw [← nearest_word, ← Nat.shiftLeft_eq, nearest_scale]
  congr 1
  rw [K_eq]; omega

theorem mul_fin {x y : Nat} (hx : isF x) (hy : isF y) : fmul x y = double.word (sgn x ^^ sgn y) (nrung (unitsOf (rung x) * unitsOf (rung y)) K) := by
  obtain ⟨m, a, h1, h2⟩ := read_fin hx
  obtain ⟨n, b, h3, h4⟩ := read_fin hy
  unfold fmul Format.mul
  rw [h1, h3]
  show double.nearest (sgn x ^^ sgn y) (m * n) (-1074 + (a : Int) + (-1074 + (b : Int))) = _
  rw [nearest_at_place, ← h2, ← h4, Nat.pow_add]
  congr 2
  rw [Nat.mul_assoc, Nat.mul_assoc]
  congr 1
  rw [Nat.mul_left_comm]

theorem uv_mul (x y : Nat) : uv x * uv y = if sgn x ^^ sgn y then -((unitsOf (rung x) * unitsOf (rung y) : Nat) : Int) else ((unitsOf (rung x) * unitsOf (rung y) : Nat) : Int) := by
  unfold uv
  cases sgn x <;> cases sgn y <;> simp <;> grind

theorem mul_rd {x y : Nat} (hx : isF x) (hy : isF y) : Rd (fv x * fv y) (fmul x y) := by
  rw [mul_fin hx hy]
  refine (rd_word _ _ _ ?_).rd
  unfold Exact
  rw [P2_K, ← uv_mul, Rat.intCast_mul, ← fv_mul, ← fv_mul]
  grind

/-- The word of a whole number. -/
theorem fv_wz {z : Int} (h : z.natAbs ≤ 9007199254740992) : isF (wz z) ∧ fv (wz z) = (z : Rat) := by
  obtain ⟨h1, h2, _⟩ := wz_read h
  refine ⟨h1, ?_⟩
  unfold fv
  rw [h2, Rat.intCast_mul]
  have := Uq_ne
  have e : ((U : Int) : Rat) = Uq := rfl
  rw [e]
  grind

/-- The whole part, downwards. -/
def flI (x : Nat) : Int := uv x / (U : Int)
theorem flI_le (x : Nat) : ((flI x : Int) : Rat) ≤ fv x := by
  refine le_of_mul_le Uq_pos ?_
  rw [fv_mul]
  have e : ((flI x : Int) : Rat) * Uq = ((flI x * (U : Int) : Int) : Rat) := by rw [Rat.intCast_mul]; rfl
  rw [e]
  refine Rat.intCast_le_intCast.2 ?_
  exact Int.ediv_mul_le _ (by have := U_pos; omega)
theorem lt_flI (x : Nat) : fv x < ((flI x : Int) : Rat) + 1 := by
  have hU : (0 : Int) < (U : Int) := by have := U_pos; omega
  have h : uv x < (flI x + 1) * (U : Int) := Int.lt_ediv_add_one_mul_self _ hU
  rcases Rat.le_total (a := ((flI x : Int) : Rat) + 1) (b := fv x) with h1 | h1
  · exfalso
    have h2 := Rat.mul_le_mul_of_nonneg_right h1 (Rat.le_of_lt Uq_pos)
    rw [fv_mul] at h2
    have e : (((flI x : Int) : Rat) + 1) * Uq = (((flI x + 1) * (U : Int) : Int) : Rat) := by rw [Rat.intCast_mul, Rat.intCast_add]; rfl
    rw [e] at h2
    have := Rat.intCast_le_intCast.1 h2
    omega
  · refine Rat.lt_of_le_of_ne h1 fun h3 => ?_
    have h4 : fv x * Uq = (((flI x : Int) : Rat) + 1) * Uq := by rw [h3]
    rw [fv_mul] at h4
    have e : (((flI x : Int) : Rat) + 1) * Uq = (((flI x + 1) * (U : Int) : Int) : Rat) := by rw [Rat.intCast_mul, Rat.intCast_add]; rfl
    rw [e] at h4
    have := Rat.intCast_inj.1 h4
    omega
theorem floor_rat {x : Nat} (h : isF x) : isF (ffloor x) ∧ fv (ffloor x) = ((flI x : Int) : Rat) := by
  obtain ⟨h1, h2⟩ := ffloor_fin h
  refine ⟨h1, ?_⟩
  unfold fv
  rw [h2, Rat.intCast_mul]
  have := Uq_ne
  have e : ((U : Int) : Rat) = Uq := rfl
  rw [e]
  unfold flI
  grind

theorem ford_fv {x y : Nat} (hx : isF x) (hy : isF y) : (ford x y == some .lt) = decide (fv x < fv y) ∧ (ford x y == some .gt) = decide (fv y < fv x) ∧ (ford x y == some .eq) = decide (fv x = fv y) := by
  rw [order_fin hx hy]
  have key : ∀ {a b : Nat}, fv a < fv b ↔ uv a < uv b := fun {a b} => by
    rw [← Rat.not_le, fv_le]; omega
  have keq : fv x = fv y ↔ uv x = uv y := by
    constructor
    · intro h
      have h1 := (fv_le (x := x) (y := y)).1 (by rw [h]; exact Rat.le_refl)
      have h2 := (fv_le (x := y) (y := x)).1 (by rw [h]; exact Rat.le_refl)
      omega
    · intro h; unfold fv; rw [h]
  simp only [key, keq]
  have kc : ∀ z : Int, compare z z = .eq := fun z => Std.ReflCmp.compare_self
  rcases Int.lt_trichotomy (uv x) (uv y) with h | h | h
  · rw [Std.compare_eq_lt.2 h]; simp; omega
  · rw [h, kc]; simp
  · rw [Std.compare_eq_gt.2 h]; simp; omega

/-- A quotient's digits tell it apart from every word. -/
theorem quot_cmp {κ m n a b S more M j : Nat} (hM : M < 9007199254740992) (hn : 0 < n) (hD : 9007199254740992 * n ≤ m * 2 ^ more) (hS : S = more + 1 + b) :
    let D := m * 2 ^ more
    let Q := 2 * (D / n) + (D % n != 0).toNat
    ((M * 2 ^ j) * (n * 2 ^ b) ≤ (m * 2 ^ a) * 2 ^ κ ↔ M * 2 ^ (j + S) ≤ Q * 2 ^ (a + κ)) ∧ ((m * 2 ^ a) * 2 ^ κ ≤ (M * 2 ^ j) * (n * 2 ^ b) ↔ Q * 2 ^ (a + κ) ≤ M * 2 ^ (j + S)) := by
  intro D Q
  have hW := Nat.two_pow_pos (a + κ)
  have hdm : n * (D / n) + D % n = D := Nat.div_add_mod D n
  have hml : D % n < n := Nat.mod_lt _ hn
  have hmore := Nat.two_pow_pos (more + 1)
  -- both sides by 2^(more+1)
  have e1 : ((M * 2 ^ j) * (n * 2 ^ b)) * 2 ^ (more + 1) = n * (M * 2 ^ (j + S)) := by
    have h0 : 2 ^ (j + S) = 2 ^ j * 2 ^ b * 2 ^ (more + 1) := by rw [hS, show j + (more + 1 + b) = j + b + (more + 1) by omega, Nat.pow_add, Nat.pow_add]
    rw [h0]
    generalize 2 ^ (more + 1) = p1
    generalize 2 ^ j = p2
    generalize 2 ^ b = p3
    ac_rfl
  have e2 : ((m * 2 ^ a) * 2 ^ κ) * 2 ^ (more + 1) = 2 * D * 2 ^ (a + κ) := by
    show _ = 2 * (m * 2 ^ more) * 2 ^ (a + κ)
    have h0 : 2 ^ (a + κ) = 2 ^ a * 2 ^ κ := Nat.pow_add ..
    have h1 : 2 ^ (more + 1) = 2 ^ more * 2 := Nat.pow_succ ..
    rw [h0, h1]
    generalize 2 ^ more = p1
    generalize 2 ^ a = p2
    generalize 2 ^ κ = p3
    ac_rfl
  have l1 : ((M * 2 ^ j) * (n * 2 ^ b) ≤ (m * 2 ^ a) * 2 ^ κ ↔ n * (M * 2 ^ (j + S)) ≤ 2 * D * 2 ^ (a + κ)) := by
    rw [← e1, ← e2]; exact (Nat.mul_le_mul_right_iff hmore).symm
  have l2 : ((m * 2 ^ a) * 2 ^ κ ≤ (M * 2 ^ j) * (n * 2 ^ b) ↔ 2 * D * 2 ^ (a + κ) ≤ n * (M * 2 ^ (j + S))) := by
    rw [← e1, ← e2]; exact (Nat.mul_le_mul_right_iff hmore).symm
  rw [l1, l2]
  have hq0 : 9007199254740992 ≤ D / n := by rw [Nat.le_div_iff_mul_le hn]; exact hD
  by_cases hc : a + κ + 1 ≤ j + S
  · obtain ⟨c, hcc⟩ : ∃ c, M * 2 ^ (j + S) = (2 * c) * 2 ^ (a + κ) := ⟨M * 2 ^ (j + S - (a + κ + 1)), by
      have h0 : 2 ^ (j + S) = 2 ^ (j + S - (a + κ + 1)) * 2 * 2 ^ (a + κ) := by
        rw [← Nat.pow_succ, ← Nat.pow_add]; congr 1; omega
      rw [h0]
      generalize 2 ^ (a + κ) = p1
      generalize 2 ^ (j + S - (a + κ + 1)) = p2
      ac_rfl⟩
    rw [hcc]
    have f1 : n * (2 * c * 2 ^ (a + κ)) ≤ 2 * D * 2 ^ (a + κ) ↔ n * c ≤ D := by
      rw [show n * (2 * c * 2 ^ (a + κ)) = (2 * (n * c)) * 2 ^ (a + κ) by ac_rfl, Nat.mul_le_mul_right_iff hW]; omega
    have f2 : 2 * D * 2 ^ (a + κ) ≤ n * (2 * c * 2 ^ (a + κ)) ↔ D ≤ n * c := by
      rw [show n * (2 * c * 2 ^ (a + κ)) = (2 * (n * c)) * 2 ^ (a + κ) by ac_rfl, Nat.mul_le_mul_right_iff hW]; omega
    rw [f1, f2, Nat.mul_le_mul_right_iff hW, Nat.mul_le_mul_right_iff hW]
    have g1 : n * c ≤ D ↔ c ≤ D / n := by rw [Nat.le_div_iff_mul_le hn, Nat.mul_comm]
    have g2 : D ≤ n * c ↔ 2 * (D / n) + (D % n != 0).toNat ≤ 2 * c := by
      by_cases hr : D % n = 0
      · rw [hr]
        have : D = n * (D / n) := by omega
        constructor
        · intro h
          have : n * (D / n) ≤ n * c := by omega
          have := Nat.le_of_mul_le_mul_left this hn
          simp; omega
        · intro h
          simp at h
          have : n * (D / n) ≤ n * c := Nat.mul_le_mul_left _ (by omega)
          omega
      · have hb : (D % n != 0).toNat = 1 := by simp [hr]
        rw [hb]
        constructor
        · intro h
          rcases Nat.lt_or_ge (D / n) c with h3 | h3
          · omega
          · have : n * c ≤ n * (D / n) := Nat.mul_le_mul_left _ h3
            omega
        · intro h
          have : n * (D / n + 1) ≤ n * c := Nat.mul_le_mul_left _ (by omega)
          rw [Nat.mul_add] at this
          omega
    refine ⟨g1.trans ?_, g2⟩
    show _ ↔ 2 * c ≤ 2 * (D / n) + (D % n != 0).toNat
    cases (D % n != 0) <;> simp <;> omega
  · have hz : M * 2 ^ (j + S) < 9007199254740992 * 2 ^ (a + κ) := by
      have h3 : 2 ^ (j + S) ≤ 2 ^ (a + κ) := Nat.pow_le_pow_right (by omega) (by omega)
      have h4 : M * 2 ^ (j + S) ≤ M * 2 ^ (a + κ) := Nat.mul_le_mul_left _ h3
      have h5 : M * 2 ^ (a + κ) < 9007199254740992 * 2 ^ (a + κ) := Nat.mul_lt_mul_of_pos_right hM hW
      omega
    have hQ : 9007199254740992 * 2 ^ (a + κ) ≤ Q * 2 ^ (a + κ) := Nat.mul_le_mul_right _ (by show _ ≤ 2 * (D / n) + _; omega)
    have hD2 : 9007199254740992 * n * 2 ^ (a + κ) ≤ D * 2 ^ (a + κ) := Nat.mul_le_mul_right _ hD
    have hnz : n * (M * 2 ^ (j + S)) < n * (9007199254740992 * 2 ^ (a + κ)) := Nat.mul_lt_mul_of_pos_left hz hn
    have e3 : n * (9007199254740992 * 2 ^ (a + κ)) = 9007199254740992 * n * 2 ^ (a + κ) := by ac_rfl
    have e4 : 2 * D * 2 ^ (a + κ) = 2 * (D * 2 ^ (a + κ)) := by ac_rfl
    constructor
    · constructor <;> intro _ <;> omega
    · constructor <;> intro _ <;> omega

/-- Two numbers that stand alike to every word, and lie near together: what rounds the one rounds the other. -/
theorem rd_of_alike {q q' : Rat} {r : Nat} (h : RdE eps0 q' r) (h1 : ∀ f, isF f → (fv f ≤ q ↔ fv f ≤ q')) (h2 : ∀ f, isF f → (q ≤ fv f ↔ q' ≤ fv f))
    (h3 : ∀ B, -B ≤ q → q ≤ B → q' - q ≤ B * (eps0 / 2) ∧ q - q' ≤ B * (eps0 / 2)) : Rd q r := by
  refine ⟨h.notN, fun f a b c => h.ge f a b ((h1 f a).1 c), fun f a b c => h.le f a b ((h2 f a).1 c), fun f g a b c d => h.fin f g a b ((h1 f a).1 c) ((h2 g b).1 d), fun B a b c => ?_⟩
  obtain ⟨n1, n2⟩ := h3 B a b
  have hB : (0 : Rat) ≤ B := by grind
  have e0 : (0 : Rat) ≤ eps0 := by unfold eps0; grind
  have e1 : eps0 ≤ 1 / 2 := by unfold eps0; grind
  have hBe := Rat.mul_nonneg hB e0
  have hBe2 : B * eps0 * eps0 ≤ B * eps0 * (1 / 2) := Rat.mul_le_mul_of_nonneg_left e1 hBe
  have ee : eps = eps0 + eps0 := by unfold eps eps0; grind
  obtain ⟨m1, m2⟩ := h.near (B + B * (eps0 / 2)) (by grind) (by grind) c
  rw [ee]
  constructor <;> grind

/-- The parts of a quotient of finite words. -/
theorem div_fin {x y : Nat} (hx : isF x) (hy : isF y) (h0 : uv y ≠ 0) : ∃ m n a b : Nat, m * 2 ^ a = unitsOf (rung x) ∧ n * 2 ^ b = unitsOf (rung y) ∧ m < 9007199254740992 ∧ 0 < n ∧
    fdiv x y = double.word (sgn x ^^ sgn y) (nrung ((2 * (m * 2 ^ (54 + n.log2 - m.log2) / n) + (m * 2 ^ (54 + n.log2 - m.log2) % n != 0).toNat) * 2 ^ (a + K)) (54 + n.log2 - m.log2 + 1 + b)) := by
  obtain ⟨m, a, h1, h2, hm⟩ := read_fin2 hx
  obtain ⟨n, b, h3, h4, hn⟩ := read_fin2 hy
  have hn0 : n ≠ 0 := fun e => by
    subst e
    rw [Nat.zero_mul] at h4
    unfold uv at h0
    rw [← h4] at h0
    split at h0 <;> exact h0 rfl
  refine ⟨m, n, a, b, h2, h4, hm, by omega, ?_⟩
  unfold fdiv Format.div
  have hq : Datum.quotient (double.fractionBits + 2) (.number (sgn x) m (-1074 + (a : Int))) (.number (sgn y) n (-1074 + (b : Int))) =
      some (.number (sgn x ^^ sgn y) (2 * (m <<< (54 + n.log2 - m.log2) / n) + (m <<< (54 + n.log2 - m.log2) % n != 0).toNat) (-1074 + (a : Int) - (-1074 + (b : Int)) - ((54 + n.log2 - m.log2 : Nat) : Int) - 1)) := by
    show (if n = 0 then _ else _) = _
    rw [if_neg hn0]
    rfl
  rw [h1, h3, hq]
  show double.nearest _ _ _ = _
  rw [Nat.shiftLeft_eq, ← nearest_word, ← Nat.shiftLeft_eq _ (a + K), nearest_scale]
  congr 1
  rw [K_eq]
  omega

theorem le_iff_mul {a b c : Rat} (hc : 0 < c) : a ≤ b ↔ a * c ≤ b * c :=
  ⟨fun h => Rat.mul_le_mul_of_nonneg_right h (Rat.le_of_lt hc), le_of_mul_le hc⟩
theorem div_cancel {a b : Rat} (h : 0 < b) : a / b * b = a := by
  have : b ≠ 0 := by grind
  grind
theorem div_pos {a b : Rat} (ha : 0 < a) (hb : 0 < b) : 0 < a / b := by
  rw [← Rat.not_le]
  intro h
  have := Rat.mul_le_mul_of_nonneg_right h (Rat.le_of_lt hb)
  rw [div_cancel hb] at this
  grind
/-- A natural number as a rational one. -/
def nq (n : Nat) : Rat := ((n : Int) : Rat)
theorem nq_mul (a b : Nat) : nq (a * b) = nq a * nq b := by unfold nq; rw [Int.natCast_mul, Rat.intCast_mul]
theorem nq_add (a b : Nat) : nq (a + b) = nq a + nq b := by unfold nq; rw [Int.natCast_add, Rat.intCast_add]
theorem nq_le {a b : Nat} : nq a ≤ nq b ↔ a ≤ b := by unfold nq; rw [Rat.intCast_le_intCast]; omega
theorem nq_nonneg (a : Nat) : 0 ≤ nq a := by
  have := (nq_le (a := 0) (b := a)).2 (Nat.zero_le _)
  exact this
theorem nq_pos {a : Nat} (h : 0 < a) : 0 < nq a := by
  unfold nq
  have : ((0 : Int) : Rat) < ((a : Int) : Rat) := Rat.intCast_lt_intCast.2 (by omega)
  simpa using this
theorem nq_U : nq (2 ^ K) = Uq := rfl
theorem nq_P2 (d : Nat) : nq (2 ^ d) = P2 d := rfl

/-- The size of a word's number. -/
def fa (x : Nat) : Rat := nq (unitsOf (rung x)) / Uq
theorem fv_fa (x : Nat) : fv x = if sgn x then -fa x else fa x := by
  unfold fv fa uv nq
  cases sgn x
  · rfl
  · simp only [if_true]
    rw [Rat.intCast_neg]
    have := Uq_ne
    grind
theorem fa_nonneg (x : Nat) : 0 ≤ fa x := by
  refine le_of_mul_le Uq_pos ?_
  have h := nq_nonneg (unitsOf (rung x))
  have := Uq_ne
  have e : fa x * Uq = nq (unitsOf (rung x)) := by unfold fa; grind
  rw [e]; grind

/-- Quotients, without signs: the exact one and its digits stand alike to every word's size. -/
theorem quot_alike {ux uy κ S Q a uf : Nat} (hy : 0 < uy) (h1 : uf * uy ≤ ux * 2 ^ κ ↔ uf * 2 ^ S ≤ Q * 2 ^ (a + κ)) (h2 : ux * 2 ^ κ ≤ uf * uy ↔ Q * 2 ^ (a + κ) ≤ uf * 2 ^ S) :
    (nq uf / nq (2 ^ κ) ≤ nq ux / nq uy ↔ nq uf / nq (2 ^ κ) ≤ nq (Q * 2 ^ (a + κ)) / (nq (2 ^ S) * nq (2 ^ κ))) ∧ (nq ux / nq uy ≤ nq uf / nq (2 ^ κ) ↔ nq (Q * 2 ^ (a + κ)) / (nq (2 ^ S) * nq (2 ^ κ)) ≤ nq uf / nq (2 ^ κ)) := by
  have p1 := nq_pos (Nat.two_pow_pos κ)
  have p2 := nq_pos (Nat.two_pow_pos S)
  have p3 := nq_pos hy
  have c1 := Rat.mul_pos p1 p3
  have c2 := Rat.mul_pos p2 p1
  rw [le_iff_mul (a := nq uf / nq (2 ^ κ)) (b := nq ux / nq uy) c1, le_iff_mul (a := nq ux / nq uy) (b := nq uf / nq (2 ^ κ)) c1,
    le_iff_mul (a := nq uf / nq (2 ^ κ)) (b := nq (Q * 2 ^ (a + κ)) / (nq (2 ^ S) * nq (2 ^ κ))) c2, le_iff_mul (b := nq uf / nq (2 ^ κ)) (a := nq (Q * 2 ^ (a + κ)) / (nq (2 ^ S) * nq (2 ^ κ))) c2]
  have e1 : nq uf / nq (2 ^ κ) * (nq (2 ^ κ) * nq uy) = nq (uf * uy) := by rw [nq_mul]; grind
  have e2 : nq ux / nq uy * (nq (2 ^ κ) * nq uy) = nq (ux * 2 ^ κ) := by rw [nq_mul]; grind
  have e3 : nq uf / nq (2 ^ κ) * (nq (2 ^ S) * nq (2 ^ κ)) = nq (uf * 2 ^ S) := by rw [nq_mul]; grind
  have e4 : nq (Q * 2 ^ (a + κ)) / (nq (2 ^ S) * nq (2 ^ κ)) * (nq (2 ^ S) * nq (2 ^ κ)) = nq (Q * 2 ^ (a + κ)) := by grind
  rw [e1, e2, e3, e4, nq_le, nq_le, nq_le, nq_le]
  exact ⟨h1, h2⟩

/-- .. and lie near together. -/
theorem quot_near {m n a b more κ : Nat} (hn : 0 < n) (hD : 9007199254740992 * n ≤ m * 2 ^ more) :
    let q := nq (m * 2 ^ a) / nq (n * 2 ^ b)
    let q' := nq ((2 * (m * 2 ^ more / n) + (m * 2 ^ more % n != 0).toNat) * 2 ^ (a + κ)) / (nq (2 ^ (more + 1 + b)) * nq (2 ^ κ))
    q' - q ≤ q * (eps0 / 2) ∧ q - q' ≤ q * (eps0 / 2) := by
  intro q q'
  have p1 := nq_pos (Nat.two_pow_pos a)
  have p2 := nq_pos (Nat.two_pow_pos b)
  have p3 := nq_pos (Nat.two_pow_pos κ)
  have p4 := nq_pos (Nat.two_pow_pos more)
  have p5 := nq_pos hn
  have hq : q = nq m * nq (2 ^ a) / (nq n * nq (2 ^ b)) := by show nq _ / nq _ = _; rw [nq_mul, nq_mul]
  obtain ⟨Q, hQ⟩ : ∃ Q, Q = 2 * (m * 2 ^ more / n) + (m * 2 ^ more % n != 0).toNat := ⟨_, rfl⟩
  have hq' : q' = nq Q * nq (2 ^ a) / (2 * nq (2 ^ more) * nq (2 ^ b)) := by
    show nq _ / (nq _ * nq _) = _
    rw [← hQ, nq_mul, Nat.pow_add, Nat.pow_add, Nat.pow_add, nq_mul, nq_mul, nq_mul]
    have : nq (2 ^ 1) = 2 := rfl
    rw [this]
    grind
  -- Q n is 2 m 2^more up to n
  have hdm := Nat.div_add_mod (m * 2 ^ more) n
  have hml := Nat.mod_lt (m * 2 ^ more) hn
  have d1 : Q * n ≤ 2 * (m * 2 ^ more) + n := by
    rw [hQ, Nat.add_mul]
    have : 2 * (m * 2 ^ more / n) * n = 2 * (n * (m * 2 ^ more / n)) := by ac_rfl
    have : (m * 2 ^ more % n != 0).toNat * n ≤ n := by cases (m * 2 ^ more % n != 0) <;> simp
    omega
  have d2 : 2 * (m * 2 ^ more) ≤ Q * n + n := by
    rw [hQ, Nat.add_mul]
    have : 2 * (m * 2 ^ more / n) * n = 2 * (n * (m * 2 ^ more / n)) := by ac_rfl
    by_cases hr : m * 2 ^ more % n = 0
    · omega
    · have : (m * 2 ^ more % n != 0).toNat = 1 := by simp [hr]
      rw [this]; omega
  have r1 := nq_le.2 d1
  have r2 := nq_le.2 d2
  have r3 := nq_le.2 hD
  rw [nq_mul, nq_add, nq_mul, nq_mul] at r1
  rw [nq_mul, nq_add, nq_mul, nq_mul] at r2
  rw [nq_mul, nq_mul] at r3
  have k2 : nq 2 = 2 := rfl
  have k3 : nq 9007199254740992 = 9007199254740992 := rfl
  rw [k2] at r1 r2
  rw [k3] at r3
  have ee : 9007199254740992 * eps0 = 1 := by unfold eps0; grind
  have e0 : (0 : Rat) ≤ eps0 := by unfold eps0; grind
  have hc : (0 : Rat) < 2 * nq (2 ^ more) * nq (2 ^ b) * nq n := by
    have := Rat.mul_pos (Rat.mul_pos p4 p2) p5
    grind
  have f1 : q' * (2 * nq (2 ^ more) * nq (2 ^ b) * nq n) = nq Q * nq n * nq (2 ^ a) := by rw [hq']; grind
  have f2 : q * (2 * nq (2 ^ more) * nq (2 ^ b) * nq n) = 2 * (nq m * nq (2 ^ more)) * nq (2 ^ a) := by rw [hq]; grind
  have f3 : q * (eps0 / 2) * (2 * nq (2 ^ more) * nq (2 ^ b) * nq n) = (nq m * nq (2 ^ more) * eps0) * nq (2 ^ a) := by
    have : q * (eps0 / 2) * (2 * nq (2 ^ more) * nq (2 ^ b) * nq n) = q * (2 * nq (2 ^ more) * nq (2 ^ b) * nq n) * (eps0 / 2) := by grind
    rw [this, f2]; grind
  have r4 : nq n ≤ nq m * nq (2 ^ more) * eps0 := by
    have := Rat.mul_le_mul_of_nonneg_right r3 e0
    have e9 : 9007199254740992 * nq n * eps0 = nq n * (9007199254740992 * eps0) := by grind
    rw [e9, ee] at this
    grind
  have a0 := Rat.le_of_lt p1
  constructor
  · refine le_of_mul_le hc ?_
    rw [f3, show (q' - q) * (2 * nq (2 ^ more) * nq (2 ^ b) * nq n) = (nq Q * nq n - 2 * (nq m * nq (2 ^ more))) * nq (2 ^ a) by
      have : (q' - q) * (2 * nq (2 ^ more) * nq (2 ^ b) * nq n) = q' * (2 * nq (2 ^ more) * nq (2 ^ b) * nq n) - q * (2 * nq (2 ^ more) * nq (2 ^ b) * nq n) := by grind
      rw [this, f1, f2]; grind]
    refine Rat.mul_le_mul_of_nonneg_right ?_ a0
    grind
  · refine le_of_mul_le hc ?_
    rw [f3, show (q - q') * (2 * nq (2 ^ more) * nq (2 ^ b) * nq n) = (2 * (nq m * nq (2 ^ more)) - nq Q * nq n) * nq (2 ^ a) by
      have : (q - q') * (2 * nq (2 ^ more) * nq (2 ^ b) * nq n) = q * (2 * nq (2 ^ more) * nq (2 ^ b) * nq n) - q' * (2 * nq (2 ^ more) * nq (2 ^ b) * nq n) := by grind
      rw [this, f1, f2]; grind]
    refine Rat.mul_le_mul_of_nonneg_right ?_ a0
    grind

theorem fv_div (x y : Nat) : fv x / fv y = if sgn x ^^ sgn y then -(nq (unitsOf (rung x)) / nq (unitsOf (rung y))) else nq (unitsOf (rung x)) / nq (unitsOf (rung y)) := by
  have h1 : fa x / fa y = nq (unitsOf (rung x)) / nq (unitsOf (rung y)) := by
    unfold fa
    have hu := Uq_ne
    by_cases h : nq (unitsOf (rung y)) = 0
    · rw [h]; grind
    · grind
  rw [fv_fa x, fv_fa y, ← h1]
  cases sgn x <;> cases sgn y <;> simp <;> grind

theorem units_M {f : Nat} (hf : isF f) : ∃ M j, M < 9007199254740992 ∧ unitsOf (rung f) = M * 2 ^ j := by
  obtain ⟨m, j, _, h2, h3⟩ := read_fin2 hf
  exact ⟨m, j, h3, h2.symm⟩

theorem div_rd {x y : Nat} (hx : isF x) (hy : isF y) (h0 : uv y ≠ 0) : Rd (fv x / fv y) (fdiv x y) := by
  obtain ⟨m, n, a, b, hm, hn, hm53, hn0, hd⟩ := div_fin hx hy h0
  rw [hd, fv_div, ← hm, ← hn]
  generalize (sgn x ^^ sgn y) = s
  clear hd h0 hx hy
  by_cases hm0 : m = 0
  · subst hm0
    have hQ : (2 * (0 * 2 ^ (54 + n.log2 - (0 : Nat).log2) / n) + (0 * 2 ^ (54 + n.log2 - (0 : Nat).log2) % n != 0).toNat) * 2 ^ (a + K) = 0 := by simp
    rw [hQ]
    refine (rd_word s _ _ ?_).rd
    unfold Exact
    have : nq (0 * 2 ^ a) = 0 := by rw [Nat.zero_mul]; rfl
    rw [this]
    cases s <;> simp <;> grind
  · obtain ⟨more, hmore⟩ : ∃ k, k = 54 + n.log2 - m.log2 := ⟨_, rfl⟩
    rw [← hmore]
    have hlm : m.log2 < 53 := (Nat.log2_lt hm0).2 hm53
    have hD : 9007199254740992 * n ≤ m * 2 ^ more := by
      have h1 : 2 ^ m.log2 ≤ m := Nat.log2_self_le hm0
      have h2 : n < 2 ^ (n.log2 + 1) := Nat.lt_log2_self
      have h3 : 2 ^ (m.log2 + more) = 9007199254740992 * 2 ^ (n.log2 + 1) := by
        rw [hmore, show m.log2 + (54 + n.log2 - m.log2) = 53 + (n.log2 + 1) by omega, Nat.pow_add]
      have h4 : 2 ^ m.log2 * 2 ^ more ≤ m * 2 ^ more := Nat.mul_le_mul_right _ h1
      rw [← Nat.pow_add, h3] at h4
      have h5 : 9007199254740992 * n ≤ 9007199254740992 * 2 ^ (n.log2 + 1) := Nat.mul_le_mul_left _ (Nat.le_of_lt h2)
      exact Nat.le_trans h5 h4
    clear hmore hlm
    obtain ⟨Q, hQ⟩ : ∃ Q, Q = 2 * (m * 2 ^ more / n) + (m * 2 ^ more % n != 0).toNat := ⟨_, rfl⟩
    have hnear := quot_near (a := a) (b := b) (κ := K) hn0 hD
    have hcmp : ∀ f, isF f → (fa f ≤ nq (m * 2 ^ a) / nq (n * 2 ^ b) ↔ fa f ≤ nq (Q * 2 ^ (a + K)) / (nq (2 ^ (more + 1 + b)) * nq (2 ^ K))) ∧ (nq (m * 2 ^ a) / nq (n * 2 ^ b) ≤ fa f ↔ nq (Q * 2 ^ (a + K)) / (nq (2 ^ (more + 1 + b)) * nq (2 ^ K)) ≤ fa f) := fun f hf => by
      obtain ⟨M, j, hM, hMj⟩ := units_M hf
      have := quot_cmp (κ := K) (a := a) (b := b) (S := more + 1 + b) (M := M) (j := j) hM hn0 hD rfl
      obtain ⟨t1, t2⟩ := this
      rw [← hQ] at t1 t2
      unfold fa
      rw [← nq_U, hMj]
      refine quot_alike (Nat.mul_pos hn0 (Nat.two_pow_pos _)) ?_ ?_
      · rw [t1, Nat.mul_assoc, ← Nat.pow_add]
      · rw [t2, Nat.mul_assoc, ← Nat.pow_add]
    have hqpos : 0 < nq (m * 2 ^ a) / nq (n * 2 ^ b) := div_pos (nq_pos (Nat.mul_pos (by omega) (Nat.two_pow_pos _))) (nq_pos (Nat.mul_pos hn0 (Nat.two_pow_pos _)))
    have hQpos : 0 < Q := by
      have : 9007199254740992 ≤ m * 2 ^ more / n := by rw [Nat.le_div_iff_mul_le hn0]; exact hD
      omega
    have hqpos' : 0 < nq (Q * 2 ^ (a + K)) / (nq (2 ^ (more + 1 + b)) * nq (2 ^ K)) := div_pos (nq_pos (Nat.mul_pos hQpos (Nat.two_pow_pos _))) (Rat.mul_pos (nq_pos (Nat.two_pow_pos _)) (nq_pos (Nat.two_pow_pos _)))
    rw [← hQ] at hnear ⊢
    have hex : nq (Q * 2 ^ (a + K)) / (nq (2 ^ (more + 1 + b)) * nq (2 ^ K)) * (P2 (more + 1 + b) * Uq) = nq (Q * 2 ^ (a + K)) := by
      rw [nq_P2, nq_U]
      exact div_cancel (Rat.mul_pos (P2_pos _) Uq_pos)
    obtain ⟨near1, near2⟩ := hnear
    generalize nq (m * 2 ^ a) / nq (n * 2 ^ b) = q at *
    generalize nq (Q * 2 ^ (a + K)) / (nq (2 ^ (more + 1 + b)) * nq (2 ^ K)) = q' at *
    have hr : RdE eps0 (if s then -q' else q') (double.word s (nrung (Q * 2 ^ (a + K)) (more + 1 + b))) := by
      refine rd_word s _ _ ?_
      unfold Exact
      cases s
      · simp only [Bool.false_eq_true, if_false]; exact hex
      · simp only [if_true]; rw [Rat.intCast_neg]
        have e : ((Q * 2 ^ (a + K) : Nat) : Int) = ((Q * 2 ^ (a + K) : Nat) : Int) := rfl
        have : -q' * (P2 (more + 1 + b) * Uq) = -(q' * (P2 (more + 1 + b) * Uq)) := by grind
        rw [this, hex]; rfl
    have e0 : (0 : Rat) ≤ eps0 / 2 := by unfold eps0; grind
    refine rd_of_alike hr (fun f hf => ?_) (fun f hf => ?_) (fun B hB1 hB2 => ?_)
    · have h1 := hcmp f hf
      have h2 := fv_fa f
      have h3 := fa_nonneg f
      cases s <;> cases hs : sgn f <;> simp only [hs, Bool.false_eq_true, if_false, if_true] at * <;> grind
    · have h1 := hcmp f hf
      have h2 := fv_fa f
      have h3 := fa_nonneg f
      cases s <;> cases hs : sgn f <;> simp only [hs, Bool.false_eq_true, if_false, if_true] at * <;> grind
    · cases s
      · simp only [Bool.false_eq_true, if_false] at *
        have := Rat.mul_le_mul_of_nonneg_right hB2 e0
        grind
      · simp only [if_true] at *
        have : q ≤ B := by grind
        have := Rat.mul_le_mul_of_nonneg_right this e0
        grind

end Go.Fl
