/- weirref06.Sorted: a new row that holds the list, sorted by merging. -/
import Derived.Test.YtoeldcgclaiokaaRowF
import Derived.Test.YtoeldcgclaiokaaSmallQ
import Derived.Deep.QuietTactic
import Derived.BigQuiet
import Derived.Deep.RegionHeld3
namespace Go.Proofs.Ytoeldcgclaiokaa
open Go.Fl Go.Rel Go.RowKit

/-- A row of the call's own that holds these. -/
def NewRow (n : Nat) (ys : List Nat) (w : World) (e : Ending) (w' : World) : Prop :=
  ∃ a' c', e = .returned (.slice a' n c') ∧ SlOk a' n c' ∧ Row w' a' n ys ∧ Below w.heap.size w w'

def lenOf (v : Value) : Nat := match v with | .slice _ n _ => n | _ => 0

/-- How far the merging is. -/
def MergeRel (target : List Nat) (w0 : World) (v3 v4 v5 : Value) (wr : World) : Prop :=
  ∃ aa ca na A ab cb nb C O, v3 = .slice aa na ca ∧ v4 = .slice ab nb cb ∧ SlOk aa na ca ∧ SlOk ab nb cb ∧ Row w0 aa na A ∧ Row w0 ab nb C ∧
    Own w0.heap.size wr v5 O ∧ Below w0.heap.size w0 wr ∧ O ++ List.merge A C leF = target ∧ (∀ x ∈ A, W64 x) ∧ (∀ x ∈ C, W64 x)

end Go.Proofs.Ytoeldcgclaiokaa
