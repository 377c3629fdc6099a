/- Half the square root of two; words as numbers: on both sides. -/
import Derived.Test.YtmmfjknnbkcniaaGreatSmallQ
namespace Go.Fl
def hB : Nat := 4604544271217802189
end Go.Fl
namespace Go.Proofs.YtmmfjknnbkcniaaGreat
open Go.Fl Go.Rel Go.RowKit

theorem half_any (w : World) : Calls Tryz.prog 121 #[] w fun e w' => e = .returned (.float .f64 hB) ∧ w = w' := by
  have hr := frombits_run 4604544271217802189 w
  go_enter Tryz.func121, Tryz.ntmps121
  go_wp2_with (simp only [hr])
  go_ret
  exact ⟨rfl, rfl⟩

theorem rbits_any (n : Int) (w : World) : Calls Tryz.prog 108 #[.int .u64 n] w fun e w' => e = .returned (.float .f64 n.toNat) ∧ w = w' := by
  have hr := frombits_run n w
  go_enter Tryz.func108, Tryz.ntmps108
  go_wp2_with (simp only [hr])
  go_ret
  exact ⟨rfl, rfl⟩

theorem rhalf_any (w : World) : Calls Tryz.prog 123 #[] w fun e w' => e = .returned (.float .f64 hB) ∧ w = w' := by
  go_enter Tryz.func123, Tryz.ntmps123
  go_wp2_with (go_at_call 108; refine (rbits_any _ _).mono ?_; rintro e w' ⟨rfl, rfl⟩)
  go_ret
  exact ⟨rfl, rfl⟩

end Go.Proofs.YtmmfjknnbkcniaaGreat
