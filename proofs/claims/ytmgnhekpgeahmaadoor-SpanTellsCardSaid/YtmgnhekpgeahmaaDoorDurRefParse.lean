/- weirref03.Parse. -/
import Derived.Test.YtmgnhekpgeahmaaDoorDurParse
namespace Go.Proofs.YtmgnhekpgeahmaaDoor
open Go.Dur Go.Fl Go.RowKit

theorem parse_of {s : ByteArray} (h : ¬ 64 < s.size) : parseN s = if (meas s 0 0 0).1 = 0 ∨ (meas s 0 0 0).1 < s.size then (0, 30) else if Dur.M < (meas s 0 0 0).2 then (0, 31) else ((meas s 0 0 0).2, 0) := by
  unfold parseN; rw [if_neg h]

theorem nonempty_list {s : ByteArray} (h : s.size ≠ 0) : s.toList.isEmpty = false := by
  rw [ByteArray.toList_eq]
  obtain ⟨⟨l⟩⟩ := s
  cases l with
  | nil => exact absurd rfl h
  | cons a l => rfl

def ParRel (s : ByteArray) (vs vi : Value) : Prop := ∃ e r S : Nat, e ≤ s.size ∧ S ≤ e * 315360000000001 ∧ vi = .int .i64 (e : Int) ∧ vs = .int .i64 (S : Int) ∧ meas s 0 0 0 = meas s e r (min S (Dur.M + 1))

theorem min_step (S p m : Nat) : min (min S m + p) m = min (S + p) m := by omega

end Go.Proofs.YtmgnhekpgeahmaaDoor
