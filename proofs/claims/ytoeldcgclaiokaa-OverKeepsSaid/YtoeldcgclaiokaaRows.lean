/-
  No cell of these rows narrows 'for every input' (looked for: loops, veiled, ifaces, maps, wideKeys, modest, calm, conditions, laid).
  DERIVED. THE GIVEN ROWS OF THIS SEAT. 7 by the template 'for every input the law returns true; each argument reads behind the call as it read before'; 0 by the template 'total and deterministic' (their statements: YtoeldcgclaiokaaTotals.lean).
  GIVEN WITH THE SEED: the statements are not yours to turn. If you find one false, say at which input.
  Laid BY PROGRAM, IN A SANDBOX (cutbox-rows.mjs): the forced cells as the released guide's own fill.sh prints them over the translation 117f7ee4f705753b… (all of the seat's roots in one cut). By AI agents, Wed Nov 11 2026. No macro, syntax, notation, axiom, sorry.
-/
import Derived.Test.YtoeldcgclaiokaaChecked
import GoSem.Claim
import GoSem.ClaimJoined
import GoSem.ClaimMapViews
import Derived.JoinedTies
import Derived.KernelRfl
namespace Go.Proofs.Ytoeldcgclaiokaa
/- THE CELL 'sum', in the pinned program and in every row, IS THE sha256 OF THE DUMP (.gsa) THAT YtoeldcgclaiokaaProg.lean LOADS. Nothing in Lean hashes anything: it is a label: what it is worth is what the hold of that sum in a sandbox is worth. -/
noncomputable def Try.pinned : Pinned := { name := "ytoeldcgclaiokaa", sum := "117f7ee4f705753b4ed89b2dc31731e5f19b96eb226bcb825092ba1929cabe04", checked := Try.checked }
namespace Rows
def none {H : Type} : Left H := { results := [], args := [] }

/-- 'weirlaw20.OverNames': WHATEVER THE INPUT: true; the input reads as it did. -/
def overNamesSpec : ChangeSpec := { name := "overNames", fn := fun _ => fun
  | [] => { results := [.lit (.bool true)], args := [] }
  | _ => none }
def overNamesRow : OpenClaim := { program := "ytoeldcgclaiokaa", sum := "117f7ee4f705753b4ed89b2dc31731e5f19b96eb226bcb825092ba1929cabe04", func := "weir/weirlaw20.OverNames", spec := "overNames", inPlace := ["math.Float64bits", "math.Float64frombits", "math.sqrt", "math.archFloor", "math.archTrunc"], unfollowed := true, recurses := true, apart := false }
def OverNamesSaid : Prop := overNamesRow.holds Try.pinned (OpenSpec.ofChange overNamesSpec)

/-- ITS FALSE NEIGHBOUR: 'it returns false'. Refute it at one input. -/
def overNamesWrong : ChangeSpec := { name := "overNames", fn := fun _ => fun
  | [] => { results := [.lit (.bool false)], args := [] }
  | _ => none }
def OverNamesWrongFalsely : Prop := overNamesRow.holds Try.pinned (OpenSpec.ofChange overNamesWrong)

/-- 'weirlaw20.OverRates': WHATEVER THE INPUT: true; the input reads as it did. -/
def overRatesSpec : ChangeSpec := { name := "overRates", fn := fun _ => fun
  | [d] => { results := [.lit (.bool true)], args := [d] }
  | _ => none }
def overRatesRow : OpenClaim := { program := "ytoeldcgclaiokaa", sum := "117f7ee4f705753b4ed89b2dc31731e5f19b96eb226bcb825092ba1929cabe04", func := "weir/weirlaw20.OverRates", spec := "overRates", inPlace := ["math.Float64bits", "math.Float64frombits", "math.sqrt", "math.archFloor", "math.archTrunc"], unfollowed := true, recurses := true, apart := false }
def OverRatesSaid : Prop := overRatesRow.holds Try.pinned (OpenSpec.ofChange overRatesSpec)

/-- ITS FALSE NEIGHBOUR: 'it returns false'. Refute it at one input. -/
def overRatesWrong : ChangeSpec := { name := "overRates", fn := fun _ => fun
  | [d] => { results := [.lit (.bool false)], args := [d] }
  | _ => none }
def OverRatesWrongFalsely : Prop := overRatesRow.holds Try.pinned (OpenSpec.ofChange overRatesWrong)

/-- 'weirlaw20.OverShift': WHATEVER THE INPUT: true; the input reads as it did. -/
def overShiftSpec : ChangeSpec := { name := "overShift", fn := fun _ => fun
  | [d1, d2, d3] => { results := [.lit (.bool true)], args := [d1, d2, d3] }
  | _ => none }
def overShiftRow : OpenClaim := { program := "ytoeldcgclaiokaa", sum := "117f7ee4f705753b4ed89b2dc31731e5f19b96eb226bcb825092ba1929cabe04", func := "weir/weirlaw20.OverShift", spec := "overShift", inPlace := ["math.Float64bits", "math.Float64frombits", "math.sqrt", "math.archFloor", "math.archTrunc"], unfollowed := true, recurses := true, apart := false }
def OverShiftSaid : Prop := overShiftRow.holds Try.pinned (OpenSpec.ofChange overShiftSpec)

/-- ITS FALSE NEIGHBOUR: 'it returns false'. Refute it at one input. -/
def overShiftWrong : ChangeSpec := { name := "overShift", fn := fun _ => fun
  | [d1, d2, d3] => { results := [.lit (.bool false)], args := [d1, d2, d3] }
  | _ => none }
def OverShiftWrongFalsely : Prop := overShiftRow.holds Try.pinned (OpenSpec.ofChange overShiftWrong)

/-- 'weirlaw20.OverEdges': WHATEVER THE INPUT: true; the input reads as it did. -/
def overEdgesSpec : ChangeSpec := { name := "overEdges", fn := fun _ => fun
  | [d] => { results := [.lit (.bool true)], args := [d] }
  | _ => none }
def overEdgesRow : OpenClaim := { program := "ytoeldcgclaiokaa", sum := "117f7ee4f705753b4ed89b2dc31731e5f19b96eb226bcb825092ba1929cabe04", func := "weir/weirlaw20.OverEdges", spec := "overEdges", inPlace := ["math.Float64bits", "math.Float64frombits", "math.sqrt", "math.archFloor", "math.archTrunc"], unfollowed := true, recurses := true, apart := false }
def OverEdgesSaid : Prop := overEdgesRow.holds Try.pinned (OpenSpec.ofChange overEdgesSpec)

/-- ITS FALSE NEIGHBOUR: 'it returns false'. Refute it at one input. -/
def overEdgesWrong : ChangeSpec := { name := "overEdges", fn := fun _ => fun
  | [d] => { results := [.lit (.bool false)], args := [d] }
  | _ => none }
def OverEdgesWrongFalsely : Prop := overEdgesRow.holds Try.pinned (OpenSpec.ofChange overEdgesWrong)

/-- 'weirlaw20.OverMembers': WHATEVER THE INPUT: true; the input reads as it did. -/
def overMembersSpec : ChangeSpec := { name := "overMembers", fn := fun _ => fun
  | [d] => { results := [.lit (.bool true)], args := [d] }
  | _ => none }
def overMembersRow : OpenClaim := { program := "ytoeldcgclaiokaa", sum := "117f7ee4f705753b4ed89b2dc31731e5f19b96eb226bcb825092ba1929cabe04", func := "weir/weirlaw20.OverMembers", spec := "overMembers", inPlace := ["math.Float64bits", "math.Float64frombits", "math.sqrt", "math.archFloor", "math.archTrunc"], unfollowed := true, recurses := true, apart := false }
def OverMembersSaid : Prop := overMembersRow.holds Try.pinned (OpenSpec.ofChange overMembersSpec)

/-- ITS FALSE NEIGHBOUR: 'it returns false'. Refute it at one input. -/
def overMembersWrong : ChangeSpec := { name := "overMembers", fn := fun _ => fun
  | [d] => { results := [.lit (.bool false)], args := [d] }
  | _ => none }
def OverMembersWrongFalsely : Prop := overMembersRow.holds Try.pinned (OpenSpec.ofChange overMembersWrong)

/-- 'weirlaw20.OverWiden': WHATEVER THE INPUT: true; the input reads as it did. -/
def overWidenSpec : ChangeSpec := { name := "overWiden", fn := fun _ => fun
  | [d] => { results := [.lit (.bool true)], args := [d] }
  | _ => none }
def overWidenRow : OpenClaim := { program := "ytoeldcgclaiokaa", sum := "117f7ee4f705753b4ed89b2dc31731e5f19b96eb226bcb825092ba1929cabe04", func := "weir/weirlaw20.OverWiden", spec := "overWiden", inPlace := ["math.Float64bits", "math.Float64frombits", "math.sqrt", "math.archFloor", "math.archTrunc"], unfollowed := true, recurses := true, apart := false }
def OverWidenSaid : Prop := overWidenRow.holds Try.pinned (OpenSpec.ofChange overWidenSpec)

/-- ITS FALSE NEIGHBOUR: 'it returns false'. Refute it at one input. -/
def overWidenWrong : ChangeSpec := { name := "overWiden", fn := fun _ => fun
  | [d] => { results := [.lit (.bool false)], args := [d] }
  | _ => none }
def OverWidenWrongFalsely : Prop := overWidenRow.holds Try.pinned (OpenSpec.ofChange overWidenWrong)

/-- 'weirlaw20.OverKeeps': WHATEVER THE INPUT: true; the input reads as it did. -/
def overKeepsSpec : ChangeSpec := { name := "overKeeps", fn := fun _ => fun
  | [d1, d2, d3] => { results := [.lit (.bool true)], args := [d1, d2, d3] }
  | _ => none }
def overKeepsRow : OpenClaim := { program := "ytoeldcgclaiokaa", sum := "117f7ee4f705753b4ed89b2dc31731e5f19b96eb226bcb825092ba1929cabe04", func := "weir/weirlaw20.OverKeeps", spec := "overKeeps", inPlace := ["math.Float64bits", "math.Float64frombits", "math.sqrt", "math.archFloor", "math.archTrunc"], unfollowed := true, recurses := true, apart := false }
def OverKeepsSaid : Prop := overKeepsRow.holds Try.pinned (OpenSpec.ofChange overKeepsSpec)

/-- ITS FALSE NEIGHBOUR: 'it returns false'. Refute it at one input. -/
def overKeepsWrong : ChangeSpec := { name := "overKeeps", fn := fun _ => fun
  | [d1, d2, d3] => { results := [.lit (.bool false)], args := [d1, d2, d3] }
  | _ => none }
def OverKeepsWrongFalsely : Prop := overKeepsRow.holds Try.pinned (OpenSpec.ofChange overKeepsWrong)

/- THE SECOND FORM. 'bulk': how many values and letters a reading holds, each counted each time it is reached (what is shared counts as often as it is met; a slice's spare places count too). A statement '..UptoSaid' is the law's where the arguments, and the package variables that the reading takes, are together of bulk at most 1048576: NARROWER than '..Said'. Prove '..Said' where nothing that the law and all that it calls make is longer than what came in: it says more and counts as full. Else prove '..UptoSaid'. A law counts once. -/
mutual
def uptoBulk {H : Type} : DataW H → Nat
  | .lit (.string bytes) => bytes.length + 1
  | .lit _ => 1
  | .nil => 1
  | .ptr d => uptoBulk d + 1
  | .slice elems spare => uptoBulkAll elems + uptoBulkAll spare + 1
  | .agg parts => uptoBulkAll parts + 1
  | .iface _ d => uptoBulk d + 1
  | .map entries => uptoBulkEntries entries + 1
  | .held _ => 1
def uptoBulkAll {H : Type} : List (DataW H) → Nat
  | [] => 0
  | d :: r => uptoBulk d + uptoBulkAll r
def uptoBulkEntries {H : Type} : List (Lit × DataW H) → Nat
  | [] => 0
  | x :: r => uptoBulkEntry x + uptoBulkEntries r
def uptoBulkEntry {H : Type} : Lit × DataW H → Nat
  | (.string bytes, d) => bytes.length + uptoBulk d + 1
  | (_, d) => uptoBulk d + 1
 end
def uptoSmall : (H : Type) → List (DataW H) → Bool := fun _ ds => decide (uptoBulkAll ds ≤ 1048576)
def OpenSpec.upto (s : _root_.Go.ChangeSpec) : _root_.Go.OpenSpec := { _root_.Go.OpenSpec.ofChange s with cond := some uptoSmall }

/-- 'weirlaw20.OverNames', WHERE WHAT IT READS IS OF BULK AT MOST 1048576: true; the input reads as it did. -/
def overNamesUptoRow : OpenClaim := { program := "ytoeldcgclaiokaa", sum := "117f7ee4f705753b4ed89b2dc31731e5f19b96eb226bcb825092ba1929cabe04", func := "weir/weirlaw20.OverNames", spec := "overNames", inPlace := ["math.Float64bits", "math.Float64frombits", "math.sqrt", "math.archFloor", "math.archTrunc"], unfollowed := true, recurses := true, apart := false, narrowed := true }
def OverNamesUptoSaid : Prop := overNamesUptoRow.holds Try.pinned (OpenSpec.upto overNamesSpec)

/-- 'weirlaw20.OverRates', WHERE WHAT IT READS IS OF BULK AT MOST 1048576: true; the input reads as it did. -/
def overRatesUptoRow : OpenClaim := { program := "ytoeldcgclaiokaa", sum := "117f7ee4f705753b4ed89b2dc31731e5f19b96eb226bcb825092ba1929cabe04", func := "weir/weirlaw20.OverRates", spec := "overRates", inPlace := ["math.Float64bits", "math.Float64frombits", "math.sqrt", "math.archFloor", "math.archTrunc"], unfollowed := true, recurses := true, apart := false, narrowed := true }
def OverRatesUptoSaid : Prop := overRatesUptoRow.holds Try.pinned (OpenSpec.upto overRatesSpec)

/-- 'weirlaw20.OverShift', WHERE WHAT IT READS IS OF BULK AT MOST 1048576: true; the input reads as it did. -/
def overShiftUptoRow : OpenClaim := { program := "ytoeldcgclaiokaa", sum := "117f7ee4f705753b4ed89b2dc31731e5f19b96eb226bcb825092ba1929cabe04", func := "weir/weirlaw20.OverShift", spec := "overShift", inPlace := ["math.Float64bits", "math.Float64frombits", "math.sqrt", "math.archFloor", "math.archTrunc"], unfollowed := true, recurses := true, apart := false, narrowed := true }
def OverShiftUptoSaid : Prop := overShiftUptoRow.holds Try.pinned (OpenSpec.upto overShiftSpec)

/-- 'weirlaw20.OverEdges', WHERE WHAT IT READS IS OF BULK AT MOST 1048576: true; the input reads as it did. -/
def overEdgesUptoRow : OpenClaim := { program := "ytoeldcgclaiokaa", sum := "117f7ee4f705753b4ed89b2dc31731e5f19b96eb226bcb825092ba1929cabe04", func := "weir/weirlaw20.OverEdges", spec := "overEdges", inPlace := ["math.Float64bits", "math.Float64frombits", "math.sqrt", "math.archFloor", "math.archTrunc"], unfollowed := true, recurses := true, apart := false, narrowed := true }
def OverEdgesUptoSaid : Prop := overEdgesUptoRow.holds Try.pinned (OpenSpec.upto overEdgesSpec)

/-- 'weirlaw20.OverMembers', WHERE WHAT IT READS IS OF BULK AT MOST 1048576: true; the input reads as it did. -/
def overMembersUptoRow : OpenClaim := { program := "ytoeldcgclaiokaa", sum := "117f7ee4f705753b4ed89b2dc31731e5f19b96eb226bcb825092ba1929cabe04", func := "weir/weirlaw20.OverMembers", spec := "overMembers", inPlace := ["math.Float64bits", "math.Float64frombits", "math.sqrt", "math.archFloor", "math.archTrunc"], unfollowed := true, recurses := true, apart := false, narrowed := true }
def OverMembersUptoSaid : Prop := overMembersUptoRow.holds Try.pinned (OpenSpec.upto overMembersSpec)

/-- 'weirlaw20.OverWiden', WHERE WHAT IT READS IS OF BULK AT MOST 1048576: true; the input reads as it did. -/
def overWidenUptoRow : OpenClaim := { program := "ytoeldcgclaiokaa", sum := "117f7ee4f705753b4ed89b2dc31731e5f19b96eb226bcb825092ba1929cabe04", func := "weir/weirlaw20.OverWiden", spec := "overWiden", inPlace := ["math.Float64bits", "math.Float64frombits", "math.sqrt", "math.archFloor", "math.archTrunc"], unfollowed := true, recurses := true, apart := false, narrowed := true }
def OverWidenUptoSaid : Prop := overWidenUptoRow.holds Try.pinned (OpenSpec.upto overWidenSpec)

/-- 'weirlaw20.OverKeeps', WHERE WHAT IT READS IS OF BULK AT MOST 1048576: true; the input reads as it did. -/
def overKeepsUptoRow : OpenClaim := { program := "ytoeldcgclaiokaa", sum := "117f7ee4f705753b4ed89b2dc31731e5f19b96eb226bcb825092ba1929cabe04", func := "weir/weirlaw20.OverKeeps", spec := "overKeeps", inPlace := ["math.Float64bits", "math.Float64frombits", "math.sqrt", "math.archFloor", "math.archTrunc"], unfollowed := true, recurses := true, apart := false, narrowed := true }
def OverKeepsUptoSaid : Prop := overKeepsUptoRow.holds Try.pinned (OpenSpec.upto overKeepsSpec)

end Rows
end Go.Proofs.Ytoeldcgclaiokaa
