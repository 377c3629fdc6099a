/- Two digits, on both sides; the marks of a date. -/
import Derived.Test.YtmgnhekpgeahmaaDoorSecNear
namespace Go.Proofs.YtmgnhekpgeahmaaDoor
open Go.Dur Go.Fl Go.RowKit

/-- The number of the two digits at i; -1: there aren't two. -/
def pairN (s : ByteArray) (i : Nat) : Int := if i + 2 ≤ s.size ∧ isD (bt s i) = true ∧ isD (bt s (i + 1)) = true then ((bt s i : Int) - 48) * 10 + ((bt s (i + 1) : Int) - 48) else -1

theorem pair_ge (s : ByteArray) (i : Nat) : -1 ≤ pairN s i ∧ pairN s i ≤ 99 := by
  unfold pairN
  split
  · rename_i h
    have h1 := dig_bounds h.2.1
    have h2 := dig_bounds h.2.2
    omega
  · omega

set_option maxHeartbeats 1000000 in
theorem pair_any (s : ByteArray) (i : Nat) (w : World) (hi : i ≤ 1000) : Calls Tryd.prog 48 #[.string s, .int .i64 (i : Int)] w (SameD (.int .i64 (pairN s i)) w) := by
  have HP : Hid (pairN s i = if i + 2 ≤ s.size ∧ isD (bt s i) = true ∧ isD (bt s (i + 1)) = true then ((bt s i : Int) - 48) * 10 + ((bt s (i + 1) : Int) - 48) else -1) := rfl
  by_cases h1 : i + 2 ≤ s.size
  · have hb1 := bt_get s (show i < s.size by omega)
    have hb2 := bt_get s (show i + 1 < s.size by omega)
    generalize bt s i = a at *
    generalize bt s (i + 1) = b at *
    cases ha : isD a
    · have HV : Hid (pairN s i = -1) := by show _ = _; rw [HP.out, if_neg (by rw [ha]; simp)]
      have Ha := Lib.hid ha
      clear ha HP
      go_enter Tryd.func48, Tryd.ntmps48
      go_wp2_with (first | (go_at_call 54; refine (digit_any a _).mono ?_; rintro e w' ⟨rfl, rfl⟩; rw [Ha.out]))
      go_ret
      exact ⟨by rw [HV.out]; rfl, 0, rfl⟩
    · cases hb : isD b
      · have HV : Hid (pairN s i = -1) := by show _ = _; rw [HP.out, if_neg (by rw [hb]; simp)]
        have Ha := Lib.hid ha
        have Hb := Lib.hid hb
        clear ha hb HP
        go_enter Tryd.func48, Tryd.ntmps48
        go_wp2_with (first | (go_at_call 54; (with_reducible refine (digit_any a _).mono ?_); rintro e w' ⟨rfl, rfl⟩; rw [Ha.out]) | (go_at_call 54; (with_reducible refine (digit_any b _).mono ?_); rintro e w' ⟨rfl, rfl⟩; rw [Hb.out]))
        go_ret
        exact ⟨by rw [HV.out]; rfl, 0, rfl⟩
      · have HV : Hid (pairN s i = ((a : Int) - 48) * 10 + ((b : Int) - 48)) := by show _ = _; rw [HP.out, if_pos ⟨h1, ha, hb⟩]
        have da := dig_bounds ha
        have db := dig_bounds hb
        have e0 : IntKind.u8.wrap ((a : Int) - 48) = (a : Int) - 48 := IntWalk.u8_in _ (by omega)
        have e1 : IntKind.u8.wrap ((b : Int) - 48) = (b : Int) - 48 := IntWalk.u8_in _ (by omega)
        have Ha := Lib.hid ha
        have Hb := Lib.hid hb
        clear ha hb HP
        go_enter Tryd.func48, Tryd.ntmps48
        go_wp2_with (first | (go_at_call 54; (with_reducible refine (digit_any a _).mono ?_); rintro e w' ⟨rfl, rfl⟩; rw [Ha.out]) | (go_at_call 54; (with_reducible refine (digit_any b _).mono ?_); rintro e w' ⟨rfl, rfl⟩; rw [Hb.out]))
        go_quiet (fail)
        go_wp2_with fail
        go_ret
        exact ⟨by rw [HV.out]; rfl, _, rfl⟩
  · have HV : Hid (pairN s i = -1) := by show _ = _; rw [HP.out, if_neg (fun h => h1 h.1)]
    clear HP
    go_enter Tryd.func48, Tryd.ntmps48
    go_wp2_with fail
    go_ret
    exact ⟨by rw [HV.out]; rfl, 0, rfl⟩

end Go.Proofs.YtmgnhekpgeahmaaDoor
