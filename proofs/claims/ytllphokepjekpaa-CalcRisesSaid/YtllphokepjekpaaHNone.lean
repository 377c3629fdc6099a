/- The order of two buckets; the sort of none. -/
import Derived.Test.YtllphokepjekpaaHPlain
import Derived.Test.YtllphokepjekpaaSmallQ
import Derived.Sort.Grow
namespace Go.Proofs.Ytllphokepjekpaa
open Go.Fl Go.Rel Go.RowKit Go.Sort Go.Lib

/-- The order of two buckets. -/
theorem cmpH_any (x y : Hb) (w : World) : Calls Try.prog 114 #[.agg (hbCells x).toArray, .agg (hbCells y).toArray] w fun e w' => e = .returned (.int .i64 (cmpH x y)) ∧ ∃ q os', w' = grow (w.drewN q) os' := by
  obtain ⟨xu, xc⟩ := x
  obtain ⟨yu, yc⟩ := y
  show Calls Try.prog 114 #[.agg #[.float .f64 xu, .float .f64 xc], .agg #[.float .f64 yu, .float .f64 yc]] w _
  go_enter Try.func114, Try.ntmps114
  go_wp2_with (go_at_call 93; refine (order_any _ _ _).mono ?_; rintro e w' ⟨rfl, rfl⟩)
  go_ret
  refine ⟨rfl, 0, #[.cells #[.float .f64 xu, .float .f64 xc] 46, .cells #[.float .f64 yu, .float .f64 yc] 46], ?_⟩
  rw [alloc_eq_grow, alloc_eq_grow, grow_grow]
  rfl

theorem ins_none (g : Nat) (cb : Array Value) (w : World) : Calls Try.prog 129 #[.slice none 0 0, .int .i64 0, .int .i64 0, .func (.func g) #[] cb] w fun e w' => e = .returned (.tuple #[]) ∧ w' = w := by
  go_enter Try.func129, Try.ntmps129
  go_wp2
  go_loopw [8] (fun v wr => v = .int .i64 1 ∧ wr = w) (fun _ _ => 0)
  case atStart => exact ⟨rfl, rfl⟩
  case round =>
    obtain ⟨rfl, rfl⟩ := hrel
    go_wp2
    go_end0
    exact ⟨rfl, rfl⟩

theorem stable_none (g : Nat) (cb : Array Value) (w : World) : Calls Try.prog 122 #[.slice none 0 0, .int .i64 0, .func (.func g) #[] cb] w fun e w' => e = .returned (.tuple #[]) ∧ w' = w := by
  go_enter Try.func122, Try.ntmps122
  go_wp2
  go_loopw [7, 8] (fun v u wr => v = .int .i64 0 ∧ u = .int .i64 20 ∧ wr = w) (fun _ _ _ => 0)
  case atStart => exact ⟨rfl, rfl, rfl⟩
  case round =>
    obtain ⟨rfl, rfl, rfl⟩ := hrel
    go_wp2_with fail
    refine (ins_none _ _ _).mono ?_
    rintro e w1 ⟨rfl, rfl⟩
    go_wp2_with fail
    go_loopw [6] (fun v wr => v = .int .i64 20 ∧ wr = w1) (fun _ _ => 0)
    case atStart => exact ⟨rfl, rfl⟩
    case round =>
      obtain ⟨rfl, rfl⟩ := hrel
      go_wp2
      go_end0
      exact ⟨rfl, rfl⟩

theorem sort_none (g : Nat) (cb : Array Value) (w : World) : Calls Try.prog 113 #[.slice none 0 0, .func (.func g) #[] cb] w fun e w' => e = .returned (.tuple #[]) ∧ w' = w := by
  go_enter Try.func113, Try.ntmps113
  go_wp2_with fail
  refine (stable_none _ _ _).mono ?_
  rintro e w1 ⟨rfl, rfl⟩
  go_wp2_with fail
  go_end0
  exact ⟨rfl, rfl⟩

end Go.Proofs.Ytllphokepjekpaa
