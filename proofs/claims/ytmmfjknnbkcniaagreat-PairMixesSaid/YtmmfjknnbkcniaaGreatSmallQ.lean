/- Small functions: IsNaN, Inf, the orders of floats. -/
import Derived.Test.YtmmfjknnbkcniaaGreatMeanAll
import Derived.Test.YtmmfjknnbkcniaaGreatFlAll
namespace Go.Proofs.YtmmfjknnbkcniaaGreat
open Go.Fl Go.Rel Go.RowKit

theorem cn_pinf : cn pinf = pinf := by decide +kernel
theorem cn_ninf : cn ninf = ninf := by decide +kernel

theorem isnan_any (x : Nat) (w : World) : Calls Tryz.prog 64 #[.float .f64 x] w fun e w' => e = .returned (.bool (isN x)) ∧ w = w' := by
  have hx : (FloatKind.f64.format.order x x != some .eq) = isN x := ne_self x
  go_enter Tryz.func64, Tryz.ntmps64
  go_wp2
  go_ret
  exact ⟨rfl, rfl⟩
theorem bad_any (x : Nat) (w : World) : Calls Tryz.prog 79 #[.float .f64 x] w fun e w' => e = .returned (.bool (isN x)) ∧ w = w' := by
  have hx : (FloatKind.f64.format.order x x != some .eq) = isN x := ne_self x
  go_enter Tryz.func79, Tryz.ntmps79
  go_wp2
  go_ret
  exact ⟨rfl, rfl⟩
theorem inf_up (w : World) : Calls Tryz.prog 95 #[.int .i64 1] w fun e w' => e = .returned (.float .f64 pinf) ∧ w = w' := by
  have hr := frombits_run 9218868437227405312 w
  go_enter Tryz.func95, Tryz.ntmps95
  go_wp2_with (simp only [hr])
  go_ret
  exact ⟨rfl, rfl⟩
theorem inf_down (w : World) : Calls Tryz.prog 95 #[.int .i64 (-1)] w fun e w' => e = .returned (.float .f64 ninf) ∧ w = w' := by
  have hr := frombits_run 18442240474082181120 w
  go_enter Tryz.func95, Tryz.ntmps95
  go_wp2_with (simp only [hr])
  go_ret
  exact ⟨rfl, rfl⟩
theorem rinf_up (w : World) : Calls Tryz.prog 107 #[.int .i64 1] w fun e w' => e = .returned (.float .f64 pinf) ∧ w = w' := by
  go_enter Tryz.func107, Tryz.ntmps107
  go_wp2_with (go_at_call 95; refine (inf_up _).mono ?_; rintro e w' ⟨rfl, rfl⟩)
  go_ret
  exact ⟨rfl, rfl⟩
theorem rinf_down (w : World) : Calls Tryz.prog 107 #[.int .i64 (-1)] w fun e w' => e = .returned (.float .f64 ninf) ∧ w = w' := by
  go_enter Tryz.func107, Tryz.ntmps107
  go_wp2_with (go_at_call 95; refine (inf_down _).mono ?_; rintro e w' ⟨rfl, rfl⟩)
  go_ret
  exact ⟨rfl, rfl⟩

theorem shl1 (x : Nat) : IntKind.u64.wrap ((x : Int) * 2) = 2 * (rung x : Int) := by
  rw [IntKind.wrap_u64]; unfold rung; omega

/-- A word of 64 bits, all NaN as one. -/
def W64 (x : Nat) : Prop := cn x < 18446744073709551616

end Go.Proofs.YtmmfjknnbkcniaaGreat
