/- slices.ContainsFunc over a list of floats, asked for infinities; calc.Mean. -/
import Derived.Test.YtllphokepjekpaaSums
namespace Go.Proofs.Ytllphokepjekpaa
open Go.Fl Go.Rel Go.RowKit

def anyInf (ys : List Nat) : Bool := ys.any finf

theorem at0_mem (ys : List Nat) (k : Nat) (h : k < ys.length) : at0 ys k ∈ ys := by
  simp [at0, List.getD, h]

theorem anyInf_true {ys : List Nat} {k : Nat} (h : k < ys.length) (hk : finf (at0 ys k) = true) : anyInf ys = true :=
  List.any_eq_true.2 ⟨_, at0_mem ys k h, hk⟩

theorem anyInf_false {ys : List Nat} (h : ∀ j, j < ys.length → finf (at0 ys j) = false) : anyInf ys = false := by
  unfold anyInf
  rw [List.any_eq_false]
  intro x hx
  obtain ⟨j, hj, rfl⟩ := List.mem_iff_getElem.1 hx
  have := h j hj
  simp [at0, List.getD, hj] at this
  simp [this]

def IdxRet (b : Bool) (w : World) (e : Ending) (w' : World) : Prop := ∃ r : Int, e = .returned (.int .i64 r) ∧ decide (0 ≤ r) = b ∧ -1 ≤ r ∧ w = w'

set_option maxHeartbeats 1000000 in
theorem index_inf (a : Option Addr) (n cap : Nat) (xs : List Nat) (w : World) (hr : Row w a n xs) :
    Calls Try.prog 108 #[.slice a n cap, .func (.func 57) #[] #[]] w (IdxRet (anyInf (xs.map cn)) w) := by
  obtain ⟨hl, hm, hc⟩ := hr
  go_enter Try.func108, Try.ntmps108
  go_wp2_with fail
  go_loop [8] (fun i => ∃ k : Nat, k ≤ n ∧ i = .int .i64 (k : Int) ∧ Hid (∀ j, j < k → finf (at0 (xs.map cn) j) = false)) (fun i => n - (intOf i).toNat)
  case atStart => exact ⟨0, by omega, rfl, fun j hj => by omega⟩
  case round =>
    obtain ⟨k, hk, rfl, H⟩ := hrel
    by_cases hlt : k < n
    · obtain ⟨b, off, rfl, hcell⟩ := hc (by omega)
      have ck := hcell k hlt
      clear hcell hc
      have Hat := Lib.hid (at0_map cn xs (i := k) (by omega))
      cases hi : finf (cn (at0 xs k))
      · have Hi := Lib.hid hi
        clear hi
        go_wp2_with (go_at_call 57; refine (infinite_any _ _).mono ?_; rintro e w' ⟨rfl, rfl⟩; rw [Hi.out])
        go_round
        case rel =>
          refine ⟨k + 1, by omega, by go_num, fun j hj => ?_⟩
          by_cases hjk : j = k
          · rw [hjk, Hat.out]; exact Hi.out
          · exact H.out j (by omega)
        case measure => simp [intOf]; omega
      · have Hi := Lib.hid hi
        clear hi
        have hany : anyInf (xs.map cn) = true := anyInf_true (k := k) (by simp; omega) (by rw [Hat.out]; exact Hi.out)
        have Hany := Lib.hid hany
        clear hany
        go_wp2_with (go_at_call 57; refine (infinite_any _ _).mono ?_; rintro e w' ⟨rfl, rfl⟩; rw [Hi.out])
        go_ret
        exact ⟨k, rfl, by rw [Hany.out]; simp, by omega, rfl⟩
    · have hk' : k = n := by omega
      subst hk'
      have hany : anyInf (xs.map cn) = false := anyInf_false (fun j hj => H.out j (by simp at hj; omega))
      have Hany := Lib.hid hany
      clear hany
      go_wp2_with fail
      go_ret
      exact ⟨-1, rfl, by rw [Hany.out]; decide, by omega, rfl⟩

theorem contains_inf (a : Option Addr) (n cap : Nat) (xs : List Nat) (w : World) (hr : Row w a n xs) :
    Calls Try.prog 58 #[.slice a n cap, .func (.func 57) #[] #[]] w fun e w' => e = .returned (.bool (anyInf (xs.map cn))) ∧ w = w' := by
  go_enter Try.func58, Try.ntmps58
  go_wp2_with fail
  refine (index_inf a n cap xs _ hr).mono ?_
  rintro e w1 ⟨r, rfl, hb, hr1, rfl⟩
  have Hb := Lib.hid hb
  clear hb
  go_wp2_with fail
  go_ret
  exact ⟨ret_bool (by rw [← Hb.out]), rfl⟩

end Go.Proofs.Ytllphokepjekpaa
