/- Digits as bytes. -/
import Derived.WalkKit
namespace Go.Dur

/-- A number's digit. -/
def dgt (n p : Nat) : UInt8 := UInt8.ofNat (48 + n / p % 10)
theorem dgt_nat (n p : Nat) : (dgt n p).toNat = 48 + n / p % 10 := by
  unfold dgt
  rw [UInt8.toNat_ofNat_of_lt']
  have : UInt8.size = 256 := rfl
  omega
def dig2 (n : Nat) : List UInt8 := [dgt n 10, dgt n 1]
def dig4 (n : Nat) : List UInt8 := [dgt n 1000, dgt n 100, dgt n 10, dgt n 1]
def thL (n : Nat) : List UInt8 := if n = 0 then [] else [46, dgt n 100, dgt n 10, dgt n 1]

/-- The powers of ten that are met. -/
def pw : Nat → Nat
  | 0 => 1 | 1 => 10 | 2 => 100 | 3 => 1000 | _ => 0
theorem pw_succ {j : Nat} (h : j ≤ 2) : pw (j + 1) = pw j * 10 ∧ pw j ≤ 100 := by
  match j, h with
  | 0, _ | 1, _ | 2, _ => simp [pw]
/-- The place of a digit that is written j-th of k. -/
def pl (k j : Nat) : Nat := if j < k then pw (k - 1 - j) else 0
theorem pl_step {k j : Nat} (hk : k ≤ 4) (h : j < k) : 0 < pl k j ∧ pl k j ≤ 1000 ∧ pl k (j + 1) = pl k j / 10 := by
  match k, j, hk, h with
  | 1, 0, _, _ | 2, 0, _, _ | 2, 1, _, _ | 3, 0, _, _ | 3, 1, _, _ | 3, 2, _, _ | 4, 0, _, _ | 4, 1, _, _ | 4, 2, _, _ | 4, 3, _, _ => simp [pl, pw]
def digs (n k : Nat) : Nat → List UInt8
  | 0 => []
  | j + 1 => digs n k j ++ [dgt n (pl k j)]
theorem digs_two (n : Nat) : digs n 2 2 = dig2 n := rfl
theorem digs_four (n : Nat) : digs n 4 4 = dig4 n := rfl
theorem length_digs (n k j : Nat) : (digs n k j).length = j := by
  induction j with
  | zero => rfl
  | succ j ih => simp [digs, ih]
end Go.Dur
