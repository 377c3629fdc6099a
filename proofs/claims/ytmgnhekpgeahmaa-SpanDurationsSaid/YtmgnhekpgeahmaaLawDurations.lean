/- weirlaw03.SpanDurations returns true whatever comes in. -/
import Derived.Test.YtmgnhekpgeahmaaDurRefParse
namespace Go.Proofs.Ytmgnhekpgeahmaa
open Go.Dur Go.Fl Go.RowKit

theorem dur_first : parseN ⟨#[49, 104, 51, 48, 109]⟩ = (5400000, 0) := by decide +kernel
theorem dur_second : (meas ⟨#[53, 109, 51, 48, 120]⟩ 0 0 0).1 = 2 := by decide +kernel

theorem law_durations (s : ByteArray) (w : World) (hs : s.size ≤ 9223372036854775806) : Calls Try.prog 6 #[.string s] w fun e w' => e = .returned (.bool true) ∧ Below w.heap.size w w' := by
  have HP := Lib.hid (fun w => parse_any s w hs)
  have HR := Lib.hid (fun w => refparse_any s w hs)
  have HX := Lib.hid (fun w => prefix_any s w hs)
  have HY := Lib.hid (fun w => refprefix_any s w hs)
  generalize parseN s = p at *
  generalize (meas s 0 0 0).1 = E at *
  obtain ⟨n, e⟩ := p
  dsimp only at *
  go_enter Try.func6, Try.ntmps6
  go_wp2_with fail
  refine (parse_any _ _ (by decide)).mono ?_
  rintro e1 w1 ⟨rfl, n1, rfl⟩
  rw [dur_first]
  go_wp2_with fail
  refine (prefix_any _ _ (by decide)).mono ?_
  rintro e1 w1 ⟨rfl, n2, rfl⟩
  rw [dur_second]
  go_wp2_with fail
  refine (HP.out _).mono ?_
  rintro e1 w1 ⟨rfl, n3, rfl⟩
  go_wp2_with fail
  refine (HR.out _).mono ?_
  rintro e1 w1 ⟨rfl, rfl⟩
  go_wp2_with fail
  refine (HX.out _).mono ?_
  rintro e1 w1 ⟨rfl, n4, rfl⟩
  go_wp2_with fail
  refine (HY.out _).mono ?_
  rintro e1 w1 ⟨rfl, rfl⟩
  go_wp2_with fail
  go_ret
  exact ⟨ret_bool (by simp), (Below.refl _ _).drewN' _⟩

end Go.Proofs.Ytmgnhekpgeahmaa
