/- Small functions: IsNaN, Inf, the orders of floats. -/
import Derived.Test.YtmmfjknnbkcniaaMeanAll
import Derived.Test.YtmmfjknnbkcniaaFlAll
namespace Go.Proofs.Ytmmfjknnbkcniaa
open Go.Fl Go.Rel Go.RowKit

theorem cn_pinf : cn pinf = pinf := by decide +kernel
theorem cn_ninf : cn ninf = ninf := by decide +kernel

theorem isnan_any (x : Nat) (w : World) : Calls Try.prog 20 #[.float .f64 x] w fun e w' => e = .returned (.bool (isN x)) ∧ w = w' := by
  have hx : (FloatKind.f64.format.order x x != some .eq) = isN x := ne_self x
  go_enter Try.func20, Try.ntmps20
  go_wp2
  go_ret
  exact ⟨rfl, rfl⟩
theorem bad_any (x : Nat) (w : World) : Calls Try.prog 32 #[.float .f64 x] w fun e w' => e = .returned (.bool (isN x)) ∧ w = w' := by
  have hx : (FloatKind.f64.format.order x x != some .eq) = isN x := ne_self x
  go_enter Try.func32, Try.ntmps32
  go_wp2
  go_ret
  exact ⟨rfl, rfl⟩
theorem inf_up (w : World) : Calls Try.prog 47 #[.int .i64 1] w fun e w' => e = .returned (.float .f64 pinf) ∧ w = w' := by
  have hr := frombits_run 9218868437227405312 w
  go_enter Try.func47, Try.ntmps47
  go_wp2_with (simp only [hr])
  go_ret
  exact ⟨rfl, rfl⟩
theorem inf_down (w : World) : Calls Try.prog 47 #[.int .i64 (-1)] w fun e w' => e = .returned (.float .f64 ninf) ∧ w = w' := by
  have hr := frombits_run 18442240474082181120 w
  go_enter Try.func47, Try.ntmps47
  go_wp2_with (simp only [hr])
  go_ret
  exact ⟨rfl, rfl⟩
theorem rinf_up (w : World) : Calls Try.prog 58 #[.int .i64 1] w fun e w' => e = .returned (.float .f64 pinf) ∧ w = w' := by
  go_enter Try.func58, Try.ntmps58
  go_wp2_with (go_at_call 47; refine (inf_up _).mono ?_; rintro e w' ⟨rfl, rfl⟩)
  go_ret
  exact ⟨rfl, rfl⟩
theorem rinf_down (w : World) : Calls Try.prog 58 #[.int .i64 (-1)] w fun e w' => e = .returned (.float .f64 ninf) ∧ w = w' := by
  go_enter Try.func58, Try.ntmps58
  go_wp2_with (go_at_call 47; refine (inf_down _).mono ?_; rintro e w' ⟨rfl, rfl⟩)
  go_ret
  exact ⟨rfl, rfl⟩

theorem shl1 (x : Nat) : IntKind.u64.wrap ((x : Int) * 2) = 2 * (rung x : Int) := by
  rw [IntKind.wrap_u64]; unfold rung; omega

/-- A word of 64 bits, all NaN as one. -/
def W64 (x : Nat) : Prop := cn x < 18446744073709551616

end Go.Proofs.Ytmmfjknnbkcniaa
