/- over.most: the greatest, the least. -/
import Derived.Test.YtoeldcgclaiokaaGreatRowF
import Derived.Test.YtoeldcgclaiokaaGreatSmall
namespace Go.Proofs.YtoeldcgclaiokaaGreat
open Go.Fl Go.Rel Go.RowKit

/-- Does v take the place of m? -/
def mostP (up : Bool) (v m : Nat) : Bool := (if up = true then ford v m == some .gt else ford v m == some .lt) || isN m
def mostT (vs : List Nat) (up : Bool) : Nat → Nat
  | 0 => at0 vs 0
  | k + 1 => if mostP up (at0 vs (k + 1)) (mostT vs up k) = true then at0 vs (k + 1) else mostT vs up k
def FSame (c : Nat) (w : World) (e : Ending) (w' : World) : Prop := ∃ r, e = .returned (.float .f64 r) ∧ cn r = c ∧ w = w'
def MostRel (vs : List Nat) (up : Bool) (n : Nat) (vm vi : Value) : Prop := ∃ k r : Nat, k + 1 ≤ n ∧ vi = .int .i64 (k : Int) ∧ vm = .float .f64 r ∧ cn r = mostT vs up k

theorem isN_cn (r : Nat) : isN (cn r) = isN r := by
  unfold cn
  cases h : isN r with
  | true => rw [if_pos rfl]; exact isN_nanc
  | false => rw [if_neg (by simp)]; exact h

set_option maxHeartbeats 2000000 in
set_option maxRecDepth 100000 in
theorem most_true (b off n cap : Nat) (xs : List Nat) (w : World) (h0 : 0 < n) (hc : n < cap ∨ n = cap) (hcm : cap ≤ 140737488355328) (hl : xs.length = n) (hcell : ∀ i, i < n → w.cell? ⟨b, off + i, none⟩ = some (.float .f64 (at0 xs i))) :
    Calls Tryz.prog 50 #[.slice (some ⟨b, off, none⟩) n cap, .int .i64 1] w (FSame (mostT (xs.map cn) true (n - 1)) w) := by
  have c0 := hcell 0 h0
  rw [Nat.add_zero] at c0
  have HA : Hid (∀ i, i < n → at0 (xs.map cn) i = cn (at0 xs i)) := fun i hi => at0_map cn xs (by omega)
  have HC := Lib.hid hcell
  have h1n : 1 ≤ n := h0
  have hncap : n ≤ cap := by omega
  clear hcell hl hc h0
  by_cases h1 : cap = 1
  · have hn1 : n = 1 := by omega
    subst h1
    subst hn1
    go_enter Tryz.func50, Tryz.ntmps50
    go_wp2_with fail
    go_loop [5, 14] (fun vm vi => vm = .float .f64 (at0 xs 0) ∧ vi = .int .i64 0) (fun _ _ => 0)
    case atStart => exact ⟨rfl, rfl⟩
    case round =>
      obtain ⟨rfl, rfl⟩ := hrel
      go_wp2_with fail
      go_ret
      exact ⟨_, rfl, (HA.out 0 (by omega)).symm, rfl⟩
  · go_enter Tryz.func50, Tryz.ntmps50
    go_wp2_with fail
    go_loop [5, 14] (MostRel (xs.map cn) true n) (fun _ vi => n - (intOf vi).toNat)
    case atStart => exact ⟨0, _, h1n, rfl, rfl, (HA.out 0 (by omega)).symm⟩
    case round =>
      obtain ⟨k, r, hk, rfl, rfl, hr⟩ := hrel
      have HR := Lib.hid hr
      clear hr
      by_cases hlt : k + 1 < n
      · have ck := HC.out (k + 1) hlt
        have HV := Lib.hid (HA.out (k + 1) hlt)
        obtain ⟨v, hv⟩ : ∃ v, v = at0 xs (k + 1) := ⟨_, rfl⟩
        rw [← hv] at ck HV
        clear hv
        rw [show off + (k + 1) = off + 1 + k by omega] at ck
        have o1 : (FloatKind.f64.format.order v r == some Ordering.gt) = (ford (cn v) (cn r) == some .gt) := by rw [order_cn]
        have o2 : (FloatKind.f64.format.order r r != some Ordering.eq) = isN (cn r) := by rw [isN_cn]; exact ne_self r
        have HP : Hid (mostP true (cn v) (cn r) = ((ford (cn v) (cn r) == some .gt) || isN (cn r))) := rfl
        obtain ⟨p, hp⟩ : ∃ p, p = (ford (cn v) (cn r) == some .gt) := ⟨_, rfl⟩
        obtain ⟨q, hq⟩ : ∃ p, p = isN (cn r) := ⟨_, rfl⟩
        rw [← hp] at o1 HP
        rw [← hq] at o2 HP
        clear hp hq
        have HT : Hid (mostT (xs.map cn) true (k + 1) = if mostP true (at0 (xs.map cn) (k + 1)) (mostT (xs.map cn) true k) = true then at0 (xs.map cn) (k + 1) else mostT (xs.map cn) true k) := rfl
        cases p <;> cases q
        all_goals
          go_wp2_with fail
          go_round
          case rel => exact ⟨k + 1, _, by omega, by go_num, rfl, by rw [HT.out, HV.out, ← HR.out, HP.out]; rfl⟩
          case measure => simp [intOf]; omega
      · have hkn : n - 1 = k := by omega
        have HKN := Lib.hid hkn
        clear hkn
        go_wp2_with fail
        go_ret
        exact ⟨r, rfl, by rw [HKN.out]; exact HR.out, rfl⟩

set_option maxHeartbeats 2000000 in
set_option maxRecDepth 100000 in
theorem most_false (b off n cap : Nat) (xs : List Nat) (w : World) (h0 : 0 < n) (hc : n < cap ∨ n = cap) (hcm : cap ≤ 140737488355328) (hl : xs.length = n) (hcell : ∀ i, i < n → w.cell? ⟨b, off + i, none⟩ = some (.float .f64 (at0 xs i))) :
    Calls Tryz.prog 50 #[.slice (some ⟨b, off, none⟩) n cap, .int .i64 (-1)] w (FSame (mostT (xs.map cn) false (n - 1)) w) := by
  have c0 := hcell 0 h0
  rw [Nat.add_zero] at c0
  have HA : Hid (∀ i, i < n → at0 (xs.map cn) i = cn (at0 xs i)) := fun i hi => at0_map cn xs (by omega)
  have HC := Lib.hid hcell
  have h1n : 1 ≤ n := h0
  have hncap : n ≤ cap := by omega
  clear hcell hl hc h0
  by_cases h1 : cap = 1
  · have hn1 : n = 1 := by omega
    subst h1
    subst hn1
    go_enter Tryz.func50, Tryz.ntmps50
    go_wp2_with fail
    go_loop [5, 14] (fun vm vi => vm = .float .f64 (at0 xs 0) ∧ vi = .int .i64 0) (fun _ _ => 0)
    case atStart => exact ⟨rfl, rfl⟩
    case round =>
      obtain ⟨rfl, rfl⟩ := hrel
      go_wp2_with fail
      go_ret
      exact ⟨_, rfl, (HA.out 0 (by omega)).symm, rfl⟩
  · go_enter Tryz.func50, Tryz.ntmps50
    go_wp2_with fail
    go_loop [5, 14] (MostRel (xs.map cn) false n) (fun _ vi => n - (intOf vi).toNat)
    case atStart => exact ⟨0, _, h1n, rfl, rfl, (HA.out 0 (by omega)).symm⟩
    case round =>
      obtain ⟨k, r, hk, rfl, rfl, hr⟩ := hrel
      have HR := Lib.hid hr
      clear hr
      by_cases hlt : k + 1 < n
      · have ck := HC.out (k + 1) hlt
        have HV := Lib.hid (HA.out (k + 1) hlt)
        obtain ⟨v, hv⟩ : ∃ v, v = at0 xs (k + 1) := ⟨_, rfl⟩
        rw [← hv] at ck HV
        clear hv
        rw [show off + (k + 1) = off + 1 + k by omega] at ck
        have o1 : (FloatKind.f64.format.order v r == some Ordering.lt) = (ford (cn v) (cn r) == some .lt) := by rw [order_cn]
        have o2 : (FloatKind.f64.format.order r r != some Ordering.eq) = isN (cn r) := by rw [isN_cn]; exact ne_self r
        have HP : Hid (mostP false (cn v) (cn r) = ((ford (cn v) (cn r) == some .lt) || isN (cn r))) := rfl
        obtain ⟨p, hp⟩ : ∃ p, p = (ford (cn v) (cn r) == some .lt) := ⟨_, rfl⟩
        obtain ⟨q, hq⟩ : ∃ p, p = isN (cn r) := ⟨_, rfl⟩
        rw [← hp] at o1 HP
        rw [← hq] at o2 HP
        clear hp hq
        have HT : Hid (mostT (xs.map cn) false (k + 1) = if mostP false (at0 (xs.map cn) (k + 1)) (mostT (xs.map cn) false k) = true then at0 (xs.map cn) (k + 1) else mostT (xs.map cn) false k) := rfl
        cases p <;> cases q
        all_goals
          go_wp2_with fail
          go_round
          case rel => exact ⟨k + 1, _, by omega, by go_num, rfl, by rw [HT.out, HV.out, ← HR.out, HP.out]; rfl⟩
          case measure => simp [intOf]; omega
      · have hkn : n - 1 = k := by omega
        have HKN := Lib.hid hkn
        clear hkn
        go_wp2_with fail
        go_ret
        exact ⟨r, rfl, by rw [HKN.out]; exact HR.out, rfl⟩
end Go.Proofs.YtoeldcgclaiokaaGreat
