/- The reference's fractions: thousandths and half. -/
import Derived.Test.YtmgnhekpgeahmaaFrac
namespace Go.Proofs.Ytmgnhekpgeahmaa
open Go.Dur Go.Fl Go.RowKit

def nz1 (u : ByteArray) : Nat → Bool
  | 0 => false
  | k + 1 => nz1 u k || (decide (1 ≤ k) && decide (bt u k ≠ 48))
def hfN (u : ByteArray) : Int := if u.size = 0 ∨ bt u 0 < 53 then -1 else if 53 < bt u 0 ∨ nz1 u u.size = true then 1 else 0

theorem nz1_mono (u : ByteArray) {j k : Nat} (h : j ≤ k) (hj : nz1 u j = true) : nz1 u k = true := by
  induction k with
  | zero => obtain rfl : j = 0 := by omega
            exact hj
  | succ k ih =>
    by_cases e : j = k + 1
    · subst e; exact hj
    · rw [nz1, ih (by omega)]; rfl

theorem nonempty_list' {s : ByteArray} (h : s.size ≠ 0) : s.toList.isEmpty = false := by
  rw [ByteArray.toList_eq]
  obtain ⟨⟨l⟩⟩ := s
  cases l with
  | nil => exact absurd rfl h
  | cons a l => rfl

def HalfRel (u : ByteArray) (i : Value) : Prop := ∃ k : Nat, k ≤ u.size ∧ i = .int .i64 (k : Int) ∧ (0 < k → bt u 0 = 53) ∧ nz1 u k = false

set_option maxHeartbeats 1000000 in
theorem half_any (u : ByteArray) (w : World) (hs : u.size ≤ 9223372036854775806) (hd : AllD u) : Calls Try.prog 66 #[.string u] w (Same (.int .i64 (hfN u)) w) := by
  go_enter Try.func66, Try.ntmps66
  go_wp2_with fail
  go_loop [3] (HalfRel u) (fun i => u.size - (intOf i).toNat)
  case atStart => exact ⟨0, by omega, rfl, by omega, rfl⟩
  case round =>
    obtain ⟨k, hk, rfl, h53, hnz⟩ := hrel
    by_cases hlt : k < u.size
    · have hb := bt_get u hlt
      have hc := dig_bounds (hd k hlt)
      have H53 := Lib.hid h53
      have Hnz := Lib.hid hnz
      have HH : Hid (hfN u = if u.size = 0 ∨ bt u 0 < 53 then -1 else if 53 < bt u 0 ∨ nz1 u u.size = true then 1 else 0) := rfl
      clear h53 hnz hd
      by_cases hk0 : k = 0
      · subst hk0
        by_cases hl : bt u 0 < 53
        · have HR : Hid (hfN u = -1) := by show _ = _; rw [HH.out, if_pos (.inr hl)]
          go_wp2_with fail
          go_ret
          exact ⟨by rw [HR.out]; rfl, rfl⟩
        · by_cases hg : 53 < bt u 0
          · have HR : Hid (hfN u = 1) := by show _ = _; rw [HH.out, if_neg (by omega), if_pos (.inl hg)]
            go_wp2_with fail
            go_ret
            exact ⟨by rw [HR.out]; rfl, rfl⟩
          · have He : Hid (bt u 0 = 53) := by show _ = _; omega
            go_wp2_with fail
            go_round
            case rel => exact ⟨1, by omega, rfl, fun _ => He.out, by simp [nz1]⟩
            case measure => simp [intOf]; omega
      · have hk1 : ((k : Int) == 0) = false := by simp; omega
        by_cases hg : 48 < bt u k
        · have HR : Hid (hfN u = 1) := by
            have h5 := H53.out (by omega)
            have h6 : nz1 u u.size = true := nz1_mono u (show k + 1 ≤ u.size by omega) (by rw [nz1]; simp; right; exact ⟨by omega, by omega⟩)
            show _ = _; rw [HH.out, if_neg (by omega), if_pos (.inr h6)]
          go_wp2_with fail
          go_ret
          exact ⟨by rw [HR.out]; rfl, rfl⟩
        · have He : Hid (bt u k = 48) := by show _ = _; omega
          go_wp2_with fail
          go_round
          case rel => exact ⟨k + 1, by omega, by go_num, fun _ => H53.out (by omega), by rw [nz1, Hnz.out, He.out]; simp⟩
          case measure => simp [intOf]; omega
    · have hk' : k = u.size := by omega
      have HH : Hid (hfN u = if u.size = 0 ∨ bt u 0 < 53 then -1 else if 53 < bt u 0 ∨ nz1 u u.size = true then 1 else 0) := rfl
      by_cases h0 : u.size = 0
      · have hse : u = ⟨#[]⟩ := by
          obtain ⟨⟨l⟩⟩ := u
          have : l.length = 0 := h0
          rw [List.length_eq_zero_iff.1 this]
        have HR : Hid (hfN u = -1) := by show _ = _; rw [HH.out, if_pos (.inl h0)]
        clear HH h53 hnz hd hk hs hlt
        subst hse
        subst hk'
        go_wp2_with fail
        go_ret
        exact ⟨by rw [HR.out]; rfl, rfl⟩
      · have hnl := nonempty_list' h0
        have HR : Hid (hfN u = 0) := by
          show _ = _
          rw [HH.out, if_neg (by have := h53 (by omega); omega), if_neg (by have := h53 (by omega); rw [← hk', hnz]; simp; omega)]
        clear HH h53 hnz hd
        go_wp2_with fail
        go_ret
        exact ⟨by rw [HR.out]; rfl, rfl⟩

end Go.Proofs.Ytmgnhekpgeahmaa
