/- near: the reference's ms of a number of seconds. -/
import Derived.Test.YtmgnhekpgeahmaaDoorSecRef
namespace Go.Proofs.YtmgnhekpgeahmaaDoor
open Go.Dur Go.Fl Go.RowKit

def capN (t : ByteArray) : Nat → Nat
  | 0 => 0
  | k + 1 => if capN t k < 100000000000000 then capN t k * 10 + dv t k else capN t k

theorem cap_stay (t : ByteArray) {k m : Nat} (h : 100000000000000 ≤ capN t k) (hm : k ≤ m) : capN t m = capN t k := by
  induction m with
  | zero => obtain rfl : k = 0 := by omega
            rfl
  | succ m ih =>
    by_cases e : k = m + 1
    · subst e; rfl
    · have := ih (by omega)
      rw [capN, this, if_neg (by omega)]

theorem cap_le (t : ByteArray) (hd : AllD t) : ∀ k, k ≤ t.size → capN t k ≤ 1000000000000000 := by
  intro k
  induction k with
  | zero => intro _; simp [capN]
  | succ k ih =>
    intro hk
    have h1 := ih (by omega)
    have h2 := dig_bounds (hd k (by omega))
    rw [capN]
    unfold dv
    split <;> omega

/-- Below 10 to the power 14 the number itself. -/
theorem cap_dec (t : ByteArray) : ∀ k, (capN t k < 100000000000000 → capN t k = decN t k) ∧ (100000000000000 ≤ capN t k → 100000000000000 ≤ decN t k) := by
  intro k
  induction k with
  | zero => exact ⟨fun _ => rfl, fun h => h⟩
  | succ k ih =>
    have e : decN t (k + 1) = decN t k * 10 + dv t k := rfl
    rw [e, capN]
    by_cases h : capN t k < 100000000000000
    · rw [if_pos h, ih.1 h]
      exact ⟨fun _ => rfl, fun h => h⟩
    · rw [if_neg h]
      have := ih.2 (by omega)
      exact ⟨fun h2 => absurd h2 h, fun _ => by omega⟩

def nearN (b : Bool) (wh fr : ByteArray) : Int :=
  if b = true then -((capN wh wh.size * 1000 + milN fr 3 + (if 0 < halfN fr then 1 else 0) : Nat) : Int) else ((capN wh wh.size * 1000 + milN fr 3 + (if 0 ≤ halfN fr then 1 else 0) : Nat) : Int)

def NearRel (wh : ByteArray) (w : World) (vw vi : Value) (wr : World) : Prop := ∃ k n : Nat, k ≤ wh.size ∧ vi = .int .i64 (k : Int) ∧ vw = .int .i64 ((capN wh k : Nat) : Int) ∧ wr = w.drewN n

end Go.Proofs.YtmgnhekpgeahmaaDoor
