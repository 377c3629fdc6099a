/- Numbers of digits on both sides. -/
import Derived.Test.YtmgnhekpgeahmaaDurUnits
namespace Go.Proofs.Ytmgnhekpgeahmaa
open Go.Dur Go.Fl Go.RowKit

def AllD (t : ByteArray) : Prop := ∀ i, i < t.size → isD (bt t i) = true

theorem dig_bounds {c : Nat} (h : isD c = true) : 48 ≤ c ∧ c ≤ 57 := by
  unfold isD at h
  simpa using h

def SatRel (t : ByteArray) (n i : Value) : Prop := ∃ k : Nat, k ≤ t.size ∧ i = .int .i64 (k : Int) ∧ n = .int .i64 ((satN t k : Nat) : Int)

set_option maxHeartbeats 1000000 in
theorem sat_any (t : ByteArray) (w : World) (hs : t.size ≤ 9223372036854775806) (hd : AllD t) : Calls Try.prog 48 #[.string t] w (Same (.int .i64 ((satN t t.size : Nat) : Int)) w) := by
  go_enter Try.func48, Try.ntmps48
  go_wp2_with fail
  go_loop [3, 4] (SatRel t) (fun _ i => t.size - (intOf i).toNat)
  case atStart => exact ⟨0, by omega, rfl, rfl⟩
  case round =>
    obtain ⟨k, hk, rfl, rfl⟩ := hrel
    by_cases hlt : k < t.size
    · have hb := bt_get t hlt
      have hc := dig_bounds (hd k hlt)
      have HS := Lib.hid (satN_succ t k)
      have hle : satN t k ≤ 315360000000001 := by unfold satN M; omega
      have hcv : IntKind.u8.wrap ((bt t k : Int) - 48) = (bt t k : Int) - 48 := IntWalk.u8_in _ (by omega)
      clear hd
      generalize satN t k = m at hle HS
      generalize bt t k = c at hb hc HS hcv
      go_wp2_with fail
      refine ⟨⟨k + 1, by omega, by go_num, ?_⟩, by simp [intOf]; omega⟩
      rw [HS.out]; congr 1; unfold M; split <;> omega
    · have hk' : k = t.size := by omega
      subst hk'
      go_wp2_with fail
      go_ret
      exact ⟨rfl, rfl⟩

def ManyRel (t : ByteArray) (e : Nat) (n i : Value) : Prop := ∃ k : Nat, k ≤ t.size ∧ i = .int .i64 (k : Int) ∧ n = .int .i64 ((decN t k : Nat) : Int) ∧ decN t k ≤ M / e

set_option maxHeartbeats 1000000 in
theorem many_any (t : ByteArray) (e : Nat) (w : World) (hs : t.size ≤ 9223372036854775806) (hd : AllD t) (he : 0 < e) (he2 : e ≤ 31536000000) : Calls Try.prog 34 #[.string t, .int .i64 (e : Int)] w (Same (.int .i64 ((manyN (decN t t.size) e : Nat) : Int)) w) := by
  have hq : (315360000000000 : Int).tdiv (e : Int) = ((M / e : Nat) : Int) := by rw [show (315360000000000 : Int) = ((M : Nat) : Int) from rfl, Int.ofNat_tdiv]
  have he0 : ((e : Int) == 0) = false := by simp; omega
  have hQ : M / e ≤ 315360000000000 := Nat.div_le_self _ _
  have hmul : M / e * e ≤ 315360000000000 := Nat.div_mul_le_self M e
  go_enter Try.func34, Try.ntmps34
  go_wp2_with fail
  go_loop [5, 6] (ManyRel t e) (fun _ i => t.size - (intOf i).toNat)
  case atStart => exact ⟨0, by omega, rfl, rfl, by simp [decN]⟩
  case round =>
    obtain ⟨k, hk, rfl, rfl, hle⟩ := hrel
    by_cases hlt : k < t.size
    · have hb := bt_get t hlt
      have hc := dig_bounds (hd k hlt)
      have HS : Hid (decN t (k + 1) = decN t k * 10 + (bt t k - 48)) := rfl
      have hmono := decN_mono t (show k + 1 ≤ t.size by omega)
      have Hmono := Lib.hid hmono
      have hcv : IntKind.u8.wrap ((bt t k : Int) - 48) = (bt t k : Int) - 48 := IntWalk.u8_in _ (by omega)
      clear hd hmono hmul
      have HQ : Hid (manyN (decN t t.size) e = if M / e < decN t t.size then M + 1 else decN t t.size * e) := rfl
      generalize decN t k = m at hle HS
      generalize bt t k = c at hb hc HS hcv
      obtain ⟨Q, hQd⟩ : ∃ Q, M / e = Q := ⟨_, rfl⟩
      rw [hQd] at hq hQ hle HQ
      have HQd := Lib.hid hQd
      clear hQd
      by_cases hov : (Q : Int) < (m : Int) * 10 + ((c : Int) - 48)
      · go_wp2_with fail
        go_ret
        refine ⟨?_, rfl⟩
        rw [HQ.out, if_pos (by have := Hmono.out; have := HS.out; omega)]; rfl
      · go_wp2_with fail
        refine ⟨⟨k + 1, by omega, by go_num, ?_, by have := HS.out; rw [HQd.out]; omega⟩, by simp [intOf]; omega⟩
        rw [HS.out]; congr 1; omega
    · have hk' : k = t.size := by omega
      subst hk'
      have HQ : Hid (manyN (decN t t.size) e = decN t t.size * e) := by show _ = _; unfold manyN; rw [if_neg (by omega)]
      have hm2 : decN t t.size * e ≤ 315360000000000 := Nat.le_trans (Nat.mul_le_mul_right _ hle) hmul
      have hm3 : ((decN t t.size : Nat) : Int) * (e : Int) = ((decN t t.size * e : Nat) : Int) := by simp
      clear hmul hd hle hq hQ
      obtain ⟨m, hm⟩ : ∃ m, decN t t.size = m := ⟨_, rfl⟩
      rw [hm] at hm2 hm3 ⊢
      obtain ⟨p, hp⟩ : ∃ p, m * e = p := ⟨_, rfl⟩
      rw [hp] at hm2 hm3
      have HQ2 : Hid (manyN (decN t t.size) e = p) := by show _ = _; rw [HQ.out, hm, hp]
      clear hm hp
      go_wp2_with fail
      go_ret
      exact ⟨by rw [HQ2.out]; rfl, rfl⟩

end Go.Proofs.Ytmgnhekpgeahmaa
