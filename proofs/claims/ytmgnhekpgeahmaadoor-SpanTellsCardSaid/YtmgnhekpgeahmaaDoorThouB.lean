/- span.thousandths, all digits asked for: what it answers. -/
import Derived.Test.YtmgnhekpgeahmaaDoorDigB
namespace Go.Proofs.YtmgnhekpgeahmaaDoor
open Go.Dur Go.Fl Go.Rel Go.RowKit

set_option maxHeartbeats 2000000 in
theorem thouB_zero (B : Nat) (v : Value) (l : List UInt8) (all : Bool) (w : World) (hown : OwnB B w v l) :
    Calls Tryd.prog 23 #[v, .int .i64 0, .bool all] w (OwnRet B w l) := by
  have HO := Lib.hid hown
  clear hown
  go_enter Tryd.func23, Tryd.ntmps23
  go_wp2_with fail
  go_ret
  exact ⟨_, rfl, HO.out, Below.refl _ _⟩

set_option maxHeartbeats 2000000 in
theorem thouB_all (n : Nat) (hn0 : n ≠ 0) (hn : n ≤ 999) (B : Nat) (v : Value) (l : List UInt8) (w : World) (hB : B ≤ w.heap.size) (hown : OwnB B w v l) (hl : l.length ≤ 1000000) :
    Calls Tryd.prog 23 #[v, .int .i64 (n : Int), .bool true] w (OwnRet B w (l ++ [46, dgt n 100, dgt n 10, dgt n 1])) := by
  have HO := Lib.hid hown
  have hz : ((n : Int) == 0) = false := by simp; omega
  clear hown
  have V0 := Lib.hid (dgt_nat n 100)
  have V1 := Lib.hid (dgt_nat n 10)
  have V2 := Lib.hid (dgt_nat n 1)
  generalize dgt n 100 = y0 at *
  generalize dgt n 10 = y1 at *
  generalize dgt n 1 = y2 at *
  go_enter Tryd.func23, Tryd.ntmps23
  go_wp2_with (at_builtin; refine wpList_append_b rfl (.tmp 10) (.tmp 24) rfl B _ l rfl (OwnB.alloc HO.out _) w.heap.size _ [46, y0, y1, y2] 4 rfl rfl (byte_four _ _ _ _ _ _ _ _ _ _ rfl (by have := V0.out; omega) (by have := V1.out; omega) (by have := V2.out; omega)) (by omega) (by simp; omega) ?_; intro v' w' hown' hg hv)
  have bw' := (OwnB.alloc HO.out _).below ((Below.refl B w).alloc hB _) hg (by simp; omega)
  have HO' := Lib.hid hown'
  clear hown' hg hv
  go_loopw [0] (fun v wr => v = v' ∧ wr = w') (fun _ _ => 0)
  case atStart => exact ⟨rfl, rfl⟩
  case round =>
    obtain ⟨rfl, rfl⟩ := hrel
    go_wp2_with fail
    go_ret
    exact ⟨_, rfl, HO'.out, bw'⟩

theorem thouB_any (n : Nat) (hn : n ≤ 999) (B : Nat) (v : Value) (l : List UInt8) (w : World) (hB : B ≤ w.heap.size) (hown : OwnB B w v l) (hl : l.length ≤ 1000000) :
    Calls Tryd.prog 23 #[v, .int .i64 (n : Int), .bool true] w (OwnRet B w (l ++ thL n)) := by
  by_cases h0 : n = 0
  · subst h0
    have := thouB_zero B v l true w hown
    rw [show l ++ thL 0 = l from List.append_nil l]
    exact this
  · have := thouB_all n h0 hn B v l w hB hown hl
    rw [show thL n = [46, dgt n 100, dgt n 10, dgt n 1] by unfold thL; rw [if_neg h0]]
    exact this
end Go.Proofs.YtmgnhekpgeahmaaDoor
