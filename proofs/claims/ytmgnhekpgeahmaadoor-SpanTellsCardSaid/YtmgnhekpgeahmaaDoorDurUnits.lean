/- Units of durations on both sides; numbers of digits. -/
import Derived.Test.YtmgnhekpgeahmaaDoorDurRun
import Derived.Test.YtmgnhekpgeahmaaDoorStep
namespace Go.Proofs.YtmgnhekpgeahmaaDoor
open Go.Dur Go.Fl Go.RowKit

/-- A value, in a world some draws on. -/
def SameD (v : Value) (w : World) (e : Ending) (w' : World) : Prop := e = .returned v ∧ ∃ n, w' = w.drewN n

def unitMs : Nat → Nat
  | 0 => 31536000000
  | 1 => 604800000
  | 2 => 86400000
  | 3 => 3600000
  | 4 => 60000
  | 5 => 1000
  | _ => 1
def letter : Nat → Nat
  | 0 => 121
  | 1 => 119
  | 2 => 100
  | 3 => 104
  | 4 => 109
  | _ => 115

theorem size_any (u : Nat) (h : u ≤ 6) (w : World) : Calls Tryd.prog 19 #[.int .i64 (u : Int)] w (Same (.int .i64 (unitMs u : Nat)) w) := by
  match u, h with
  | 0, _ | 1, _ | 2, _ | 3, _ | 4, _ | 5, _ | 6, _ =>
    go_enter Tryd.func19, Tryd.ntmps19
    go_wp2_with fail
    go_ret
    exact ⟨rfl, rfl⟩

theorem name_any (u : Nat) (h : u < 6) (w : World) : Calls Tryd.prog 21 #[.int .i64 (u : Int)] w (Same (.string ⟨#[(letter u).toUInt8]⟩) w) := by
  match u, h with
  | 0, _ | 1, _ | 2, _ | 3, _ | 4, _ | 5, _ =>
    go_enter Tryd.func21, Tryd.ntmps21
    go_wp2_with fail
    go_ret
    exact ⟨rfl, rfl⟩

/-- What the reference tells of a unit. -/
def unitV (u : Nat × Nat × Nat) : Value := .tuple #[.int .i64 (u.1 : Int), .int .i64 (u.2.1 : Int), .int .i64 (u.2.2 : Int)]

/-- Is the byte this letter? As the walk asks it. -/
theorem eqb {c k : Nat} (h : c = k) : ((c : Int) == (k : Int)) = true := by subst h; simp
theorem neb {c k : Nat} (h : c ≠ k) : ((c : Int) == (k : Int)) = false := by
  rw [Bool.eq_false_iff, ne_eq, beq_iff_eq]; omega

/-- Of the byte at hand: which unit. -/
inductive UnitAt (s : ByteArray) (i : Nat) : Nat × Nat × Nat → Prop
  | y : bt s i = 121 → UnitAt s i (1, 31536000000, 1)
  | w : bt s i = 119 → UnitAt s i (1, 604800000, 2)
  | d : bt s i = 100 → UnitAt s i (1, 86400000, 3)
  | h : bt s i = 104 → UnitAt s i (1, 3600000, 4)
  | ms : bt s i = 109 → i + 1 < s.size → bt s (i + 1) = 115 → UnitAt s i (2, 1, 7)
  | m1 : bt s i = 109 → i + 1 < s.size → bt s (i + 1) ≠ 115 → UnitAt s i (1, 60000, 5)
  | m2 : bt s i = 109 → ¬ i + 1 < s.size → UnitAt s i (1, 60000, 5)
  | s : bt s i = 115 → UnitAt s i (1, 1000, 6)
  | no : bt s i ≠ 121 → bt s i ≠ 119 → bt s i ≠ 100 → bt s i ≠ 104 → bt s i ≠ 109 → bt s i ≠ 115 → UnitAt s i (0, 0, 0)

theorem unit_at (s : ByteArray) {i : Nat} (hlt : i < s.size) : UnitAt s i (unitOf s i) := by
  unfold unitOf
  rw [if_neg (by omega)]
  by_cases h1 : bt s i = 121
  · rw [if_pos h1]; exact .y h1
  rw [if_neg h1]
  by_cases h2 : bt s i = 119
  · rw [if_pos h2]; exact .w h2
  rw [if_neg h2]
  by_cases h3 : bt s i = 100
  · rw [if_pos h3]; exact .d h3
  rw [if_neg h3]
  by_cases h4 : bt s i = 104
  · rw [if_pos h4]; exact .h h4
  rw [if_neg h4]
  by_cases h5 : bt s i = 109
  · rw [if_pos h5]
    by_cases h6 : i + 1 < s.size
    · by_cases h7 : bt s (i + 1) = 115
      · rw [if_pos ⟨h6, h7⟩]; exact .ms h5 h6 h7
      · rw [if_neg (fun h => h7 h.2)]; exact .m1 h5 h6 h7
    · rw [if_neg (fun h => h6 h.1)]; exact .m2 h5 h6
  rw [if_neg h5]
  by_cases h6 : bt s i = 115
  · rw [if_pos h6]; exact .s h6
  rw [if_neg h6]
  exact .no h1 h2 h3 h4 h5 h6

set_option maxHeartbeats 1000000 in
theorem refunit_any (s : ByteArray) (i : Nat) (w : World) (hs : s.size ≤ 9223372036854775806) : Calls Tryd.prog 27 #[.string s, .int .i64 (i : Int)] w (Same (unitV (unitOf s i)) w) := by
  by_cases hlt : i < s.size
  · have hb := bt_get s hlt
    have hU := unit_at s hlt
    generalize unitOf s i = u at hU
    cases hU with
    | ms hc hlt2 hc2 =>
      have hb2 := bt_get s hlt2
      go_enter Tryd.func27, Tryd.ntmps27
      go_wp2_with fail
      go_ret3
      exact ⟨rfl, rfl⟩
    | m1 hc hlt2 hc2 =>
      have hb2 := bt_get s hlt2
      have hn := neb hc2
      go_enter Tryd.func27, Tryd.ntmps27
      go_wp2_with fail
      go_ret3
      exact ⟨rfl, rfl⟩
    | no h1 h2 h3 h4 h5 h6 =>
      have n1 := neb h1
      have n2 := neb h2
      have n3 := neb h3
      have n4 := neb h4
      have n5 := neb h5
      have n6 := neb h6
      go_enter Tryd.func27, Tryd.ntmps27
      go_wp2_with fail
      go_ret3
      exact ⟨rfl, rfl⟩
    | _ hc =>
      go_enter Tryd.func27, Tryd.ntmps27
      go_wp2_with fail
      go_ret3
      exact ⟨rfl, rfl⟩
  · have hu : unitOf s i = (0, 0, 0) := by unfold unitOf; rw [if_pos (by omega)]
    rw [hu]
    go_enter Tryd.func27, Tryd.ntmps27
    go_wp2_with fail
    go_ret3
    exact ⟨rfl, rfl⟩

end Go.Proofs.YtmgnhekpgeahmaaDoor
