/- Digits and runs of digits, on both sides. -/
import Derived.Test.YtmgnhekpgeahmaaDoorDur
import Derived.Test.YtmgnhekpgeahmaaDoorProg
import Derived.KernelRfl
import Derived.Lib.Hide
import Derived.WalkKit
namespace Go.Proofs.YtmgnhekpgeahmaaDoor
open Go.Dur Go.RowKit

def Same (v : Value) (w : World) (e : Ending) (w' : World) : Prop := e = .returned v ∧ w = w'

theorem isD_int (c : Nat) : isD c = (decide ((48 : Int) ≤ c) && decide ((c : Int) ≤ 57)) := by unfold isD; congr 1 <;> exact decide_eq_decide.2 (by omega)

theorem digit_any (c : Nat) (w : World) : Calls Tryd.prog 54 #[.int .u8 (c : Int)] w (Same (.bool (isD c)) w) := by
  by_cases h1 : (48 : Int) ≤ c <;> by_cases h2 : (c : Int) ≤ 57
  all_goals
    have H := Lib.hid (isD_int c)
    go_enter Tryd.func54, Tryd.ntmps54
    go_wp2_with fail
    go_ret
    exact ⟨by rw [H.out]; simp [h1, h2], rfl⟩

def RunRel (s : ByteArray) (i0 : Nat) (i : Value) : Prop := ∃ k : Nat, i0 ≤ k ∧ k ≤ s.size ∧ i = .int .i64 (k : Int) ∧ runE s i0 = runE s k

theorem run_any (s : ByteArray) (i0 : Nat) (w : World) (hi : i0 ≤ s.size) (hs : s.size ≤ 9223372036854775806) : Calls Tryd.prog 42 #[.string s, .int .i64 (i0 : Int)] w (Same (.int .i64 (runE s i0 : Nat)) w) := by
  go_enter Tryd.func42, Tryd.ntmps42
  go_wp2_with fail
  go_loop [1] (RunRel s i0) (fun i => s.size - (intOf i).toNat)
  case atStart => exact ⟨i0, Nat.le_refl _, hi, rfl, rfl⟩
  case round =>
    obtain ⟨k, hk0, hk, rfl, hE⟩ := hrel
    have HE := Lib.hid hE
    clear hE
    by_cases hlt : k < s.size
    · have hb := bt_get s hlt
      cases hd : isD (bt s k)
      · have Hstop := Lib.hid (runE_stop (s := s) (i := k) (by rw [hd]; simp))
        have Hd := Lib.hid hd
        clear hd
        go_wp2_with (go_at_call 54; refine (digit_any _ _).mono ?_; rintro e w' ⟨rfl, rfl⟩; rw [Hd.out])
        go_ret
        exact ⟨by rw [HE.out, Hstop.out]; rfl, rfl⟩
      · have Hstep := Lib.hid (runE_step hlt hd)
        have Hd := Lib.hid hd
        clear hd
        go_wp2_with (go_at_call 54; refine (digit_any _ _).mono ?_; rintro e w' ⟨rfl, rfl⟩; rw [Hd.out])
        go_round
        case rel => exact ⟨k + 1, by omega, by omega, by go_num, by rw [HE.out, Hstep.out]⟩
        case measure => simp [intOf]; omega
    · have Hstop := Lib.hid (runE_stop (s := s) (i := k) (by omega))
      go_wp2_with fail
      go_ret
      exact ⟨by rw [HE.out, Hstop.out]; rfl, rfl⟩

end Go.Proofs.YtmgnhekpgeahmaaDoor
