/- weirlaw03.SpanMoments returns true whatever comes in. -/
import Derived.Test.YtmgnhekpgeahmaaDoorCalLaw
namespace Go.Proofs.YtmgnhekpgeahmaaDoor
open Go.Fl Go.Rel Go.RowKit

theorem leap_day : mdays 2000 2 = 29 := by decide +kernel
theorem leap_val : momVal 2000 2 29 0 0 0 0 = 951782400000 := by decide +kernel

theorem first_moment (w : World) : Calls Tryd.prog 18 #[.agg #[.int .i64 2000, .int .i64 2, .int .i64 29, .int .i64 0, .int .i64 0, .int .i64 0, .int .i64 0, .int .i64 0, .int .i64 0, .int .i64 0]] w (MRet 951782400000 0 w) := by
  rw [← leap_val]
  exact moment_6 2000 2 29 0 0 0 0 0 0 0 (by omega) (by omega) (by omega) (by rw [leap_day]; omega) (by omega) (by omega) (by omega) (by omega) w

end Go.Proofs.YtmgnhekpgeahmaaDoor
