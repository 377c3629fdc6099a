/- over.changes, over.resets: how many steps change, fall. -/
import Derived.Test.YtoeldcgclaiokaaGreatMost
import Derived.Test.YtoeldcgclaiokaaGreatMeanAll
import Derived.Deep.QuietTactic
import Derived.BigQuiet
namespace Go.Proofs.YtoeldcgclaiokaaGreat
open Go.Fl Go.Rel Go.RowKit

def chB (a b : Nat) : Bool := (ford a b != some .eq) && (!isN a || !isN b)
def reB (a b : Nat) : Bool := ford b a == some .lt
/-- How many of the first k steps are such. -/
def cntT (f : Nat → Nat → Bool) (vs : List Nat) : Nat → Nat
  | 0 => 0
  | k + 1 => cntT f vs k + if f (at0 vs k) (at0 vs (k + 1)) = true then 1 else 0
theorem cntT_le (f : Nat → Nat → Bool) (vs : List Nat) (k : Nat) : cntT f vs k ≤ k := by
  induction k with
  | zero => exact Nat.le_refl _
  | succ k ih => unfold cntT; split <;> omega
def CntRel (f : Nat → Nat → Bool) (vs : List Nat) (n : Nat) (w : World) (vn vi : Value) (wr : World) : Prop := ∃ k nd c : Nat, (k + 1 ≤ n ∨ k = 0) ∧ vi = .int .i64 ((k : Int) + 1) ∧ vn = .int .i64 (c : Int) ∧ c = cntT f vs k ∧ c ≤ k ∧ wr = w.drewN nd

set_option maxHeartbeats 4000000 in
set_option maxRecDepth 100000 in
theorem changes_any (a : Option Addr) (n cap : Nat) (xs : List Nat) (w : World) (hr : Row w a n xs) (hb : n ≤ 140737488355328) (h0 : 0 < n) :
    Calls Tryz.prog 53 #[.slice a n cap] w (FRet (nfl (cntT chB (xs.map cn) (n - 1))) w) := by
  obtain ⟨hl, -, hc⟩ := hr
  obtain ⟨b, off, rfl, hcell⟩ := hc h0
  have HA : Hid (∀ i, i < n → at0 (xs.map cn) i = cn (at0 xs i)) := fun i hi => at0_map cn xs (by omega)
  have HC := Lib.hid hcell
  clear hcell hl hc
  go_enter Tryz.func53, Tryz.ntmps53
  go_wp2_with fail
  go_loopw [3, 4] (CntRel chB (xs.map cn) n w) (fun _ vi _ => n + 1 - (intOf vi).toNat)
  case atStart => exact ⟨0, 0, 0, .inr rfl, rfl, rfl, rfl, Nat.le_refl _, rfl⟩
  case round =>
    obtain ⟨k, nd, c, hk, rfl, rfl, hcc, hck, rfl⟩ := hrel
    have HCC := Lib.hid hcc
    clear hcc
    by_cases hlt : k + 1 < n
    · have ck := HC.out k (by omega)
      have ck1 := HC.out (k + 1) hlt
      have HV0 := Lib.hid (HA.out k (by omega))
      have HV1 := Lib.hid (HA.out (k + 1) hlt)
      obtain ⟨u, hu⟩ : ∃ v, v = at0 xs k := ⟨_, rfl⟩
      obtain ⟨v, hv⟩ : ∃ v, v = at0 xs (k + 1) := ⟨_, rfl⟩
      rw [← hu] at ck HV0
      rw [← hv] at ck1 HV1
      clear hu hv hk
      have hwk : IntKind.i64.wrap ((k : Int) + 1 - 1) = (k : Int) := by rw [IntKind.wrap_i64]; omega
      have hwc : IntKind.i64.wrap ((c : Int) + 1) = (c : Int) + 1 := by rw [IntKind.wrap_i64]; omega
      have HT : Hid (cntT chB (xs.map cn) (k + 1) = cntT chB (xs.map cn) k + if chB (at0 (xs.map cn) k) (at0 (xs.map cn) (k + 1)) = true then 1 else 0) := rfl
      have o1 : (FloatKind.f64.format.order u v != some Ordering.eq) = (ford (cn u) (cn v) != some .eq) := by rw [order_cn]
      have o2 : (FloatKind.f64.format.order u u == some Ordering.eq) = !isN (cn u) := by rw [isN_cn, ← ne_self u]; unfold bne; rw [Bool.not_not]; rfl
      have o3 : (FloatKind.f64.format.order v v == some Ordering.eq) = !isN (cn v) := by rw [isN_cn, ← ne_self v]; unfold bne; rw [Bool.not_not]; rfl
      have HP : Hid (chB (cn u) (cn v) = ((ford (cn u) (cn v) != some .eq) && (!isN (cn u) || !isN (cn v)))) := rfl
      obtain ⟨p, hp⟩ : ∃ p, p = (ford (cn u) (cn v) != some .eq) := ⟨_, rfl⟩
      obtain ⟨q, hq⟩ : ∃ p, p = isN (cn u) := ⟨_, rfl⟩
      obtain ⟨s, hs⟩ : ∃ p, p = isN (cn v) := ⟨_, rfl⟩
      rw [← hp] at o1 HP
      rw [← hq] at o2 HP
      rw [← hs] at o3 HP
      clear hp hq hs
      cases p <;> cases q <;> cases s <;> simp only [Bool.not_true, Bool.not_false] at o2 o3
      all_goals
        go_wp2_with fail
        go_quiet (fail)
        go_wp2_with fail
        go_roundw
        case rel => first | exact ⟨k + 1, _, c, .inl hlt, by rw [show (((k + 1 : Nat) : Int) + 1) = (k : Int) + 1 + 1 from rfl], rfl, by rw [HT.out, HV0.out, HV1.out, ← HCC.out, HP.out]; rfl, Nat.le_succ_of_le hck, by first | rfl | exact World.drewN_drewN ..⟩ | exact ⟨k + 1, _, c + 1, .inl hlt, by rw [show (((k + 1 : Nat) : Int) + 1) = (k : Int) + 1 + 1 from rfl], rfl, by rw [HT.out, HV0.out, HV1.out, ← HCC.out, HP.out]; rfl, Nat.succ_le_succ hck, by first | rfl | exact World.drewN_drewN ..⟩
        case measure => simp [intOf]; omega
    · have hkn : n - 1 = k := by omega
      have HKN := Lib.hid hkn
      clear hkn hk
      go_wp2_with fail
      go_ret
      exact ⟨_, nd, rfl, by rw [HKN.out, ← HCC.out]; exact cn_nfl c, rfl⟩

set_option maxHeartbeats 4000000 in
set_option maxRecDepth 100000 in
theorem resets_any (a : Option Addr) (n cap : Nat) (xs : List Nat) (w : World) (hr : Row w a n xs) (hb : n ≤ 140737488355328) (h0 : 0 < n) :
    Calls Tryz.prog 54 #[.slice a n cap] w (FRet (nfl (cntT reB (xs.map cn) (n - 1))) w) := by
  obtain ⟨hl, -, hc⟩ := hr
  obtain ⟨b, off, rfl, hcell⟩ := hc h0
  have HA : Hid (∀ i, i < n → at0 (xs.map cn) i = cn (at0 xs i)) := fun i hi => at0_map cn xs (by omega)
  have HC := Lib.hid hcell
  clear hcell hl hc
  go_enter Tryz.func54, Tryz.ntmps54
  go_wp2_with fail
  go_loopw [3, 4] (CntRel reB (xs.map cn) n w) (fun _ vi _ => n + 1 - (intOf vi).toNat)
  case atStart => exact ⟨0, 0, 0, .inr rfl, rfl, rfl, rfl, Nat.le_refl _, rfl⟩
  case round =>
    obtain ⟨k, nd, c, hk, rfl, rfl, hcc, hck, rfl⟩ := hrel
    have HCC := Lib.hid hcc
    clear hcc
    by_cases hlt : k + 1 < n
    · have ck := HC.out k (by omega)
      have ck1 := HC.out (k + 1) hlt
      have HV0 := Lib.hid (HA.out k (by omega))
      have HV1 := Lib.hid (HA.out (k + 1) hlt)
      obtain ⟨u, hu⟩ : ∃ v, v = at0 xs k := ⟨_, rfl⟩
      obtain ⟨v, hv⟩ : ∃ v, v = at0 xs (k + 1) := ⟨_, rfl⟩
      rw [← hu] at ck HV0
      rw [← hv] at ck1 HV1
      clear hu hv hk
      have hwk : IntKind.i64.wrap ((k : Int) + 1 - 1) = (k : Int) := by rw [IntKind.wrap_i64]; omega
      have hwc : IntKind.i64.wrap ((c : Int) + 1) = (c : Int) + 1 := by rw [IntKind.wrap_i64]; omega
      have HT : Hid (cntT reB (xs.map cn) (k + 1) = cntT reB (xs.map cn) k + if reB (at0 (xs.map cn) k) (at0 (xs.map cn) (k + 1)) = true then 1 else 0) := rfl
      have o1 : (FloatKind.f64.format.order v u == some Ordering.lt) = (ford (cn v) (cn u) == some .lt) := by rw [order_cn]
      have HP : Hid (reB (cn u) (cn v) = (ford (cn v) (cn u) == some .lt)) := rfl
      obtain ⟨p, hp⟩ : ∃ p, p = (ford (cn v) (cn u) == some .lt) := ⟨_, rfl⟩
      rw [← hp] at o1 HP
      clear hp
      cases p
      all_goals
        go_wp2_with fail
        go_quiet (fail)
        go_wp2_with fail
        go_roundw
        case rel => first | exact ⟨k + 1, _, c, .inl hlt, by rw [show (((k + 1 : Nat) : Int) + 1) = (k : Int) + 1 + 1 from rfl], rfl, by rw [HT.out, HV0.out, HV1.out, ← HCC.out, HP.out]; rfl, Nat.le_succ_of_le hck, by first | rfl | exact World.drewN_drewN ..⟩ | exact ⟨k + 1, _, c + 1, .inl hlt, by rw [show (((k + 1 : Nat) : Int) + 1) = (k : Int) + 1 + 1 from rfl], rfl, by rw [HT.out, HV0.out, HV1.out, ← HCC.out, HP.out]; rfl, Nat.succ_le_succ hck, by first | rfl | exact World.drewN_drewN ..⟩
        case measure => simp [intOf]; omega
    · have hkn : n - 1 = k := by omega
      have HKN := Lib.hid hkn
      clear hkn hk
      go_wp2_with fail
      go_ret
      exact ⟨_, nd, rfl, by rw [HKN.out, ← HCC.out]; exact cn_nfl c, rfl⟩
end Go.Proofs.YtoeldcgclaiokaaGreat
