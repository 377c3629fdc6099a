/- Numbers of digits on both sides. -/
import Derived.Test.YtmgnhekpgeahmaaDoorDurUnits
namespace Go.Proofs.YtmgnhekpgeahmaaDoor
open Go.Dur Go.Fl Go.RowKit

def AllD (t : ByteArray) : Prop := ∀ i, i < t.size → isD (bt t i) = true

theorem dig_bounds {c : Nat} (h : isD c = true) : 48 ≤ c ∧ c ≤ 57 := by
  unfold isD at h
  simpa using h

def SatRel (t : ByteArray) (n i : Value) : Prop := ∃ k : Nat, k ≤ t.size ∧ i = .int .i64 (k : Int) ∧ n = .int .i64 ((satN t k : Nat) : Int)

set_option maxHeartbeats 1000000 in
theorem sat_any (t : ByteArray) (w : World) (hs : t.size ≤ 9223372036854775806) (hd : AllD t) : Calls Tryd.prog 44 #[.string t] w (Same (.int .i64 ((satN t t.size : Nat) : Int)) w) := by
  go_enter Tryd.func44, Tryd.ntmps44
  go_wp2_with fail
  go_loop [3, 4] (SatRel t) (fun _ i => t.size - (intOf i).toNat)
  case atStart => exact ⟨0, by omega, rfl, rfl⟩
  case round =>
    obtain ⟨k, hk, rfl, rfl⟩ := hrel
    by_cases hlt : k < t.size
    · have hb := bt_get t hlt
      have hc := dig_bounds (hd k hlt)
      have HS := Lib.hid (satN_succ t k)
      have hle : satN t k ≤ 315360000000001 := by unfold satN M; omega
      have hcv : IntKind.u8.wrap ((bt t k : Int) - 48) = (bt t k : Int) - 48 := IntWalk.u8_in _ (by omega)
      clear hd
      generalize satN t k = m at hle HS
      generalize bt t k = c at hb hc HS hcv
      go_wp2_with fail
      refine ⟨⟨k + 1, by omega, by go_num, ?_⟩, by simp [intOf]; omega⟩
      rw [HS.out]; congr 1; unfold M; split <;> omega
    · have hk' : k = t.size := by omega
      subst hk'
      go_wp2_with fail
      go_ret
      exact ⟨rfl, rfl⟩

def ManyRel (t : ByteArray) (e : Nat) (n i : Value) : Prop := ∃ k : Nat, k ≤ t.size ∧ i = .int .i64 (k : Int) ∧ n = .int .i64 ((decN t k : Nat) : Int) ∧ decN t k ≤ M / e

end Go.Proofs.YtmgnhekpgeahmaaDoor
