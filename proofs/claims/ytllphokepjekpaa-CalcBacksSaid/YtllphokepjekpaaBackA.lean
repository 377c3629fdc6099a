/- Polynomials of whole numbers: the series of the exponential and of the logarithm undo each other, nearly. -/
import Derived.Test.YtllphokepjekpaaFlLog
namespace Go.Fl
open Ieee

/-- A polynomial's value. -/
def ev : List Int → Rat → Rat
  | [], _ => 0
  | a :: t, z => (a : Rat) + z * ev t z
def pAdd : List Int → List Int → List Int
  | [], m => m
  | a :: t, [] => a :: t
  | a :: t, b :: u => (a + b) :: pAdd t u
def pScale (c : Int) : List Int → List Int
  | [] => []
  | a :: t => (c * a) :: pScale c t
def pMul : List Int → List Int → List Int
  | [], _ => []
  | a :: t, m => pAdd (pScale a m) (0 :: pMul t m)

theorem ev_add (z : Rat) : ∀ l m : List Int, ev (pAdd l m) z = ev l z + ev m z
  | [], m => by rw [pAdd, ev]; grind
  | a :: t, [] => by rw [pAdd]; simp only [ev]; grind
  | a :: t, b :: u => by
    have ih := ev_add z t u
    rw [pAdd, ev, ev, ev, ih, Rat.intCast_add]
    grind
theorem ev_scale (c : Int) (z : Rat) : ∀ l : List Int, ev (pScale c l) z = (c : Rat) * ev l z
  | [] => by rw [pScale, ev]; grind
  | a :: t => by
    have ih := ev_scale c z t
    rw [pScale, ev, ev, ih, Rat.intCast_mul]
    grind
theorem ev_mul (z : Rat) (m : List Int) : ∀ l : List Int, ev (pMul l m) z = ev l z * ev m z
  | [] => by rw [pMul, ev]; grind
  | a :: t => by
    have ih := ev_mul z m t
    rw [pMul, ev_add, ev_scale, ev, ev, ih, Rat.intCast_zero]
    grind

/-- The greatest that it can be. -/
def evB : List Int → Rat → Rat
  | [], _ => 0
  | a :: t, g => ((a.natAbs : Int) : Rat) + g * evB t g
theorem abs_cast (a : Int) : -(((a.natAbs : Int) : Rat)) ≤ (a : Rat) ∧ (a : Rat) ≤ ((a.natAbs : Int) : Rat) := by
  constructor
  · rw [← Rat.intCast_neg]; exact Rat.intCast_le_intCast.2 (by omega)
  · exact Rat.intCast_le_intCast.2 (by omega)
theorem ev_bound {z g : Rat} (h1 : -g ≤ z) (h2 : z ≤ g) : ∀ l : List Int, -(evB l g) ≤ ev l z ∧ ev l z ≤ evB l g
  | [] => by simp only [ev, evB]; constructor <;> grind
  | a :: t => by
    obtain ⟨i1, i2⟩ := ev_bound h1 h2 t
    obtain ⟨a1, a2⟩ := abs_cast a
    have p := mul_bd h1 h2 i1 i2
    simp only [ev, evB]
    constructor <;> grind

/-- The exponential's series after j steps, exactly. -/
def exq (r : Rat) : Nat → Rat
  | 0 => 1
  | j + 1 => 1 + r * exq r j / ((14 - (j : Int) : Int) : Rat)
/-- The logarithm's inner sum after j steps, exactly. -/
def spq (z2 : Rat) : Nat → Rat
  | 0 => 0
  | j + 1 => z2 * (1 / ((2 * (12 - (j : Int)) + 1 : Int) : Rat) + spq z2 j)
/-- The logarithm's series, exactly. -/
def lnq (z : Rat) : Rat := 2 * z + 2 * z * spq (z * z) 12

def dQ : Int := 1673196525
def aQ : List Int := [0, 3346393050, 0, 1115464350, 0, 669278610, 0, 478056150, 0, 371821450, 0, 304217550, 0, 257414850, 0, 223092870, 0, 196846650, 0, 176125950, 0, 159352050, 0, 145495350, 0, 133855722]
theorem spq12 (z2 : Rat) : spq z2 12 = z2 * (1 / 3 + z2 * (1 / 5 + z2 * (1 / 7 + z2 * (1 / 9 + z2 * (1 / 11 + z2 * (1 / 13 + z2 * (1 / 15 + z2 * (1 / 17 + z2 * (1 / 19 + z2 * (1 / 21 + z2 * (1 / 23 + z2 * (1 / 25 + 0)))))))))))) := rfl
theorem lnq_ev (z : Rat) : ev aQ z = (dQ : Rat) * lnq z := by
  unfold lnq
  rw [spq12]
  simp only [aQ, dQ, ev]
  grind

def cP : Nat → Int
  | 0 => 1
  | j + 1 => cP j * (14 - (j : Int)) * dQ
def gP : Nat → List Int
  | 0 => [1]
  | j + 1 => pAdd (pMul aQ (gP j)) [cP (j + 1)]
theorem gP_ex (z : Rat) : ∀ j : Nat, j ≤ 14 → ev (gP j) z = (cP j : Rat) * exq (lnq z) j
  | 0, _ => by
    show ((1 : Int) : Rat) + z * 0 = ((1 : Int) : Rat) * 1
    grind
  | j + 1, h => by
    have ih := gP_ex z j (by omega)
    have hi : ((14 - (j : Int) : Int) : Rat) ≠ 0 := by
      intro e
      have : (14 - (j : Int) : Int) = 0 := by
        have e2 : ((14 - (j : Int) : Int) : Rat) = ((0 : Int) : Rat) := e
        exact Rat.intCast_inj.1 e2
      omega
    rw [gP, ev_add, ev_mul, ih, lnq_ev, exq, cP, Rat.intCast_mul, Rat.intCast_mul]
    have e1 : ev [cP j * (14 - (j : Int)) * dQ] z = (cP j : Rat) * ((14 - (j : Int) : Int) : Rat) * (dQ : Rat) := by
      simp only [ev]
      rw [Rat.intCast_mul, Rat.intCast_mul]
      grind
    rw [e1]
    obtain ⟨v, hv⟩ : ∃ v, v = lnq z * exq (lnq z) j / ((14 - (j : Int) : Int) : Rat) := ⟨_, rfl⟩
    have hv2 : v * ((14 - (j : Int) : Int) : Rat) = lnq z * exq (lnq z) j := by rw [hv]; exact Rat.div_mul_cancel hi
    rw [← hv]
    generalize ((14 - (j : Int) : Int) : Rat) = i at *
    generalize (cP j : Rat) = c at *
    generalize (dQ : Rat) = d at *
    generalize exq (lnq z) j = e at *
    generalize lnq z = q at *
    grind

/-- What is wrong, as a polynomial. -/
def fP : List Int := pAdd (pMul [1, -1] (gP 14)) (pScale (-(cP 14)) [1, 1])
theorem fP_small : evB fP (172 / 1000) ≤ ((cP 14 : Int) : Rat) * (1 / 100000000000000000) := by decide +kernel
theorem cP_pos : (0 : Rat) < ((cP 14 : Int) : Rat) := by decide +kernel

theorem undo {z : Rat} (h1 : -(172 / 1000) ≤ z) (h2 : z ≤ 172 / 1000) : -(1 / 100000000000000000) ≤ (1 - z) * exq (lnq z) 14 - (1 + z) ∧ (1 - z) * exq (lnq z) 14 - (1 + z) ≤ 1 / 100000000000000000 := by
  obtain ⟨a, b⟩ := ev_bound h1 h2 fP
  have e : ev fP z = ((cP 14 : Int) : Rat) * ((1 - z) * exq (lnq z) 14 - (1 + z)) := by
    rw [fP, ev_add, ev_mul, ev_scale, gP_ex z 14 (by omega), Rat.intCast_neg]
    have e1 : ev [1, -1] z = 1 - z := by
      show ((1 : Int) : Rat) + z * (((-1 : Int) : Rat) + z * 0) = 1 - z
      have : ((-1 : Int) : Rat) = -1 := rfl
      have h1 : ((1 : Int) : Rat) = 1 := rfl
      rw [this, h1]; grind
    have e2 : ev [1, 1] z = 1 + z := by
      show ((1 : Int) : Rat) + z * (((1 : Int) : Rat) + z * 0) = 1 + z
      have h1 : ((1 : Int) : Rat) = 1 := rfl
      rw [h1]; grind
    rw [e1, e2]
    grind
  have hs := fP_small
  have hp := cP_pos
  rw [e] at a b
  generalize ((cP 14 : Int) : Rat) = c at *
  generalize (1 - z) * exq (lnq z) 14 - (1 + z) = v at *
  constructor
  · refine le_of_mul_le hp ?_
    grind
  · refine le_of_mul_le hp ?_
    grind

end Go.Fl
