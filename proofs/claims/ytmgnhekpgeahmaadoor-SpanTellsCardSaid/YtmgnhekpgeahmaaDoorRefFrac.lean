/- The reference's fractions: thousandths and half. -/
import Derived.Test.YtmgnhekpgeahmaaDoorFrac
namespace Go.Proofs.YtmgnhekpgeahmaaDoor
open Go.Dur Go.Fl Go.RowKit

def nz1 (u : ByteArray) : Nat → Bool
  | 0 => false
  | k + 1 => nz1 u k || (decide (1 ≤ k) && decide (bt u k ≠ 48))
def hfN (u : ByteArray) : Int := if u.size = 0 ∨ bt u 0 < 53 then -1 else if 53 < bt u 0 ∨ nz1 u u.size = true then 1 else 0

theorem nz1_mono (u : ByteArray) {j k : Nat} (h : j ≤ k) (hj : nz1 u j = true) : nz1 u k = true := by
  induction k with
  | zero => obtain rfl : j = 0 := by omega
            exact hj
  | succ k ih =>
    by_cases e : j = k + 1
    · subst e; exact hj
    · rw [nz1, ih (by omega)]; rfl

theorem nonempty_list' {s : ByteArray} (h : s.size ≠ 0) : s.toList.isEmpty = false := by
  rw [ByteArray.toList_eq]
  obtain ⟨⟨l⟩⟩ := s
  cases l with
  | nil => exact absurd rfl h
  | cons a l => rfl

def HalfRel (u : ByteArray) (i : Value) : Prop := ∃ k : Nat, k ≤ u.size ∧ i = .int .i64 (k : Int) ∧ (0 < k → bt u 0 = 53) ∧ nz1 u k = false

end Go.Proofs.YtmgnhekpgeahmaaDoor
