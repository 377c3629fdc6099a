/- PairSides, the plain law: the sides turned about. -/
import Derived.Test.YtmmfjknnbkcniaaGreatDoorQ31
namespace Ieee.Datum
theorem cmp_swap (x y : Int) : (some (compare x y) == some Ordering.lt) = (some (compare y x) == some Ordering.gt) := by
  simp only [compare, compareOfLessAndEq]
  by_cases h1 : x < y
  · rw [if_pos h1, if_neg (by omega), if_neg (by omega)]; rfl
  · rw [if_neg h1]
    by_cases h2 : x = y
    · rw [if_pos h2, if_neg (by omega), if_pos h2.symm]; rfl
    · rw [if_neg h2, if_pos (by omega)]; rfl
theorem sum_swap : ∀ a b : Datum, a.sum b = b.sum a
  | nan .., nan .. => rfl
  | nan .., infinity _ => rfl
  | nan .., number .. => rfl
  | infinity _, nan .. => rfl
  | number .., nan .. => rfl
  | infinity s, infinity t => by cases s <;> cases t <;> rfl
  | infinity _, number .. => rfl
  | number .., infinity _ => rfl
  | number s m i, number t n j => by
    simp only [sum]
    rw [Int.min_comm j i, Int.add_comm (signed t n _) (signed s m _), Bool.and_comm]
theorem product_swap : ∀ a b : Datum, a.product b = b.product a
  | nan .., nan .. => rfl
  | nan .., infinity _ => rfl
  | nan .., number .. => rfl
  | infinity _, nan .. => rfl
  | number .., nan .. => rfl
  | infinity s, infinity t => by cases s <;> cases t <;> rfl
  | infinity s, number t n _ => by simp only [product]
  | number t n _, infinity s => by simp only [product]
  | number s m i, number t n j => by
    simp only [product]
    rw [Bool.xor_comm, Nat.mul_comm, Int.add_comm]
theorem order_swap : ∀ a b : Datum, (a.order b == some .lt) = (b.order a == some .gt)
  | nan .., nan .. => rfl
  | nan .., infinity _ => rfl
  | nan .., number .. => rfl
  | infinity _, nan .. => rfl
  | number .., nan .. => rfl
  | infinity s, infinity t => by cases s <;> cases t <;> rfl
  | infinity s, number .. => by cases s <;> rfl
  | number .., infinity s => by cases s <;> rfl
  | number s m i, number t n j => by
    simp only [order]
    rw [Int.min_comm j i]; exact cmp_swap _ _
end Ieee.Datum
namespace Go.Proofs.YtmmfjknnbkcniaaGreatDoor
open Go.Fl Go.Rel Go.RowKit Go.Sort
set_option linter.unusedSimpArgs false
set_option linter.unusedVariables false

theorem fadd_swap (x y : Nat) : fadd x y = fadd y x := by unfold fadd Ieee.Format.add; rw [Ieee.Datum.sum_swap]
theorem fmul_swap (x y : Nat) : fmul x y = fmul y x := by unfold fmul Ieee.Format.mul; rw [Ieee.Datum.product_swap]
theorem less_swap (x y : Nat) : (ford x y == some .lt) = (ford y x == some .gt) := by unfold ford Ieee.Format.order; exact Ieee.Datum.order_swap _ _

theorem out_sides (k k' : Nat) (on : Bool) (ns inc : List ByteArray) (y1 y2 : Bool) (ho : ∀ a b, stepO k a b y1 = stepO k' b a y2) (hf : stepF k y1 = stepF k' y2) (hv : ∀ a b, stepV k a b a y1 = stepV k' b a b y2) (x y : Ek) :
    outK k on ns inc 1 y1 x y = outK k' on ns inc 2 y2 x y := by
  have c1 : ¬ ((1 : Int) = 2) := by decide
  have t1 : ∀ f, toldL on ns inc 1 f x.1 y.1 = toldL on ns inc 2 f x.1 y.1 := fun f => by
    unfold toldL; rw [if_neg (show ¬ ((1 : Int) = 0) by decide), if_neg (show ¬ ((2 : Int) = 0) by decide)]
  unfold outK
  simp only [if_neg c1, if_true]
  rw [ho, hf, hv, t1]
theorem met_sides (k k' : Nat) (on : Bool) (ns inc : List ByteArray) (y1 y2 : Bool) (ho : ∀ a b, stepO k a b y1 = stepO k' b a y2) (hf : stepF k y1 = stepF k' y2) (hv : ∀ a b, stepV k a b a y1 = stepV k' b a b y2) (ml mr : List Ek) :
    metE k on ns inc 1 y1 ml mr = metE k' on ns inc 2 y2 ml mr ∧ metV k on ns inc 1 y1 ml mr = metV k' on ns inc 2 y2 ml mr := by
  have hl : metL k on ns inc 1 y1 ml mr = metL k' on ns inc 2 y2 ml mr := by
    unfold metL
    congr 1
    funext x
    unfold roundK
    congr 1
    funext y
    exact out_sides k k' on ns inc y1 y2 ho hf hv x y
  cases hd : dupM on ns mr
  · have h1 := met_ok (k := k) (inc := inc) (card := 1) (yes := y1) (many := ml) hd (fun h => absurd h (by decide))
    have h2 := met_ok (k := k') (inc := inc) (card := 2) (yes := y2) (many := ml) hd (fun h => absurd h (by decide))
    rw [h1.1, h1.2, h2.1, h2.2, hl]; exact ⟨rfl, rfl⟩
  · have h1 := met_dup (k := k) (inc := inc) (card := 1) (yes := y1) (many := ml) hd
    have h2 := met_dup (k := k') (inc := inc) (card := 2) (yes := y2) (many := ml) hd
    rw [h1.1, h1.2, h2.1, h2.2]; exact ⟨rfl, rfl⟩
theorem vecs_sides (u u' : List UInt8) (hk : opK u < 12) (hk' : opK u' < 12) (on : Bool) (ns inc : List ByteArray) (y1 y2 : Bool) (ho : ∀ a b, stepO (opK u) a b y1 = stepO (opK u') b a y2) (hf : stepF (opK u) y1 = stepF (opK u') y2) (hv : ∀ a b, stepV (opK u) a b a y1 = stepV (opK u') b a b y2) (kl kr : List Ek) :
    vecsE u on ns inc 1 y1 kl kr = vecsE u' on ns inc 2 y2 kr kl ∧ vecsV u on ns inc 1 y1 kl kr = vecsV u' on ns inc 2 y2 kr kl := by
  unfold vecsE vecsV
  cases vecK kl with
  | none => cases vecK kr <;> exact ⟨rfl, rfl⟩
  | some ml =>
    cases vecK kr with
    | none => exact ⟨rfl, rfl⟩
    | some mr =>
      dsimp only
      have n1 : ¬ (¬ opK u < 12 ∧ setB u = false) := fun h => h.1 hk
      have n2 : ¬ (¬ opK u' < 12 ∧ setB u' = false) := fun h => h.1 hk'
      have c1 : ¬ ((1 : Int) < 0 ∨ (2 : Int) < 1 ∨ (setB u = true ∧ (1 : Int) ≠ 0)) := by rw [set_no hk]; simp
      have c2 : ¬ ((2 : Int) < 0 ∨ (2 : Int) < 2 ∨ (setB u' = true ∧ (2 : Int) ≠ 0)) := by rw [set_no hk']; simp
      have s1 : ¬ (setB u = true) := by rw [set_no hk]; simp
      have s2 : ¬ (setB u' = true) := by rw [set_no hk']; simp
      have d1 : ¬ ((1 : Int) = 2) := by decide
      rw [if_neg n1, if_neg n1, if_neg n2, if_neg n2, if_neg c1, if_neg c1, if_neg c2, if_neg c2, if_neg s1, if_neg s1, if_neg s2, if_neg s2]
      simp only [if_neg d1, if_true]
      exact met_sides _ _ on ns inc y1 y2 ho hf hv ml mr
theorem sides_sum (on : Bool) (ns inc : List ByteArray) (y : Bool) (kl kr : List Ek) : vecsE [43] on ns inc 1 y kl kr = vecsE [43] on ns inc 2 (!y) kr kl ∧ vecsV [43] on ns inc 1 y kl kr = vecsV [43] on ns inc 2 (!y) kr kl := by
  refine vecs_sides [43] [43] (by decide) (by decide) on ns inc y (!y) (fun a b => rfl) rfl (fun a b => ?_) kl kr
  show valS 0 a b = valS 0 b a
  unfold valS; exact fadd_swap _ _
theorem sides_mul (on : Bool) (ns inc : List ByteArray) (y : Bool) (kl kr : List Ek) : vecsE [42] on ns inc 1 y kl kr = vecsE [42] on ns inc 2 y kr kl ∧ vecsV [42] on ns inc 1 y kl kr = vecsV [42] on ns inc 2 y kr kl := by
  refine vecs_sides [42] [42] (by decide) (by decide) on ns inc y y (fun a b => rfl) rfl (fun a b => ?_) kl kr
  show valS 2 a b = valS 2 b a
  unfold valS; exact fmul_swap _ _
theorem sides_less (on : Bool) (ns inc : List ByteArray) (kl kr : List Ek) : vecsE [60] on ns inc 1 true kl kr = vecsE [62] on ns inc 2 true kr kl ∧ vecsV [60] on ns inc 1 true kl kr = vecsV [62] on ns inc 2 true kr kl := by
  refine vecs_sides [60] [62] (by decide) (by decide) on ns inc true true (fun a b => rfl) rfl (fun a b => ?_) kl kr
  show (if holdsS 8 a b then w1 else 0) = (if holdsS 10 b a then w1 else 0)
  have : holdsS 8 a b = holdsS 10 b a := by unfold holdsS; exact less_swap a b
  rw [this]
end Go.Proofs.YtmmfjknnbkcniaaGreatDoor
