/- weirlaw03.SpanDays at every int64. -/
import Derived.Test.YtmgnhekpgeahmaaLawDays
namespace Go.Proofs.Ytmgnhekpgeahmaa
open Go.Fl Go.Rel Go.RowKit

set_option maxRecDepth 100000 in
theorem law_days_all (t : Int) (h : -9223372036854775808 ≤ t ∧ t ≤ 9223372036854775807) (w : World) : Calls Try.prog 4 #[.int .i64 t] w fun e w' => e = .returned (.bool true) ∧ Below w.heap.size w w' := by
  by_cases hc : 9223372036768375807 < t
  · go_enter Try.func4, Try.ntmps4
    go_wp2_with fail
    go_ret
    exact ⟨rfl, Below.refl _ _⟩
  · exact law_days t h.1 (by omega) w

end Go.Proofs.Ytmgnhekpgeahmaa
