/- Half the square root of two; words as numbers: on both sides. -/
import Derived.Test.YtmmfjknnbkcniaaSmallQ
namespace Go.Fl
def hB : Nat := 4604544271217802189
end Go.Fl
namespace Go.Proofs.Ytmmfjknnbkcniaa
open Go.Fl Go.Rel Go.RowKit

theorem half_any (w : World) : Calls Try.prog 71 #[] w fun e w' => e = .returned (.float .f64 hB) ∧ w = w' := by
  have hr := frombits_run 4604544271217802189 w
  go_enter Try.func71, Try.ntmps71
  go_wp2_with (simp only [hr])
  go_ret
  exact ⟨rfl, rfl⟩

theorem rbits_any (n : Int) (w : World) : Calls Try.prog 59 #[.int .u64 n] w fun e w' => e = .returned (.float .f64 n.toNat) ∧ w = w' := by
  have hr := frombits_run n w
  go_enter Try.func59, Try.ntmps59
  go_wp2_with (simp only [hr])
  go_ret
  exact ⟨rfl, rfl⟩

theorem rhalf_any (w : World) : Calls Try.prog 72 #[] w fun e w' => e = .returned (.float .f64 hB) ∧ w = w' := by
  go_enter Try.func72, Try.ntmps72
  go_wp2_with (go_at_call 59; refine (rbits_any _ _).mono ?_; rintro e w' ⟨rfl, rfl⟩)
  go_ret
  exact ⟨rfl, rfl⟩

end Go.Proofs.Ytmmfjknnbkcniaa
