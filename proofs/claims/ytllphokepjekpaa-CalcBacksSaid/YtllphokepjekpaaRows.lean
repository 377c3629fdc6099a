/-
  No cell of these rows narrows 'for every input' (looked for: loops, veiled, ifaces, maps, wideKeys, modest, calm, conditions, laid).
  DERIVED. THE GIVEN ROWS OF THIS SEAT. 12 by the template 'for every input the law returns true; each argument reads behind the call as it read before'; 0 by the template 'total and deterministic' (their statements: YtllphokepjekpaaTotals.lean).
  GIVEN WITH THE SEED: the statements are not yours to turn. If you find one false, say at which input.
  Laid BY PROGRAM, IN A SANDBOX (cutbox-rows.mjs): the forced cells as the released guide's own fill.sh prints them over the translation ff9201dfbff68587… (all of the seat's roots in one cut). By AI agents, Wed Nov 11 2026. No macro, syntax, notation, axiom, sorry.
-/
import Derived.Test.YtllphokepjekpaaChecked
import GoSem.Claim
import GoSem.ClaimJoined
import GoSem.ClaimMapViews
import Derived.JoinedTies
import Derived.KernelRfl
namespace Go.Proofs.Ytllphokepjekpaa
/- THE CELL 'sum', in the pinned program and in every row, IS THE sha256 OF THE DUMP (.gsa) THAT YtllphokepjekpaaProg.lean LOADS. Nothing in Lean hashes anything: it is a label: what it is worth is what the hold of that sum in a sandbox is worth. -/
noncomputable def Try.pinned : Pinned := { name := "ytllphokepjekpaa", sum := "ff9201dfbff68587a8c3262acc602a57896876a7db71c897fa58b15aeae648f7", checked := Try.checked }
namespace Rows
def none {H : Type} : Left H := { results := [], args := [] }

/-- 'weirlaw06.CalcSmooths': WHATEVER THE INPUT: true; the input reads as it did. -/
def calcSmoothsSpec : ChangeSpec := { name := "calcSmooths", fn := fun _ => fun
  | [d1, d2, d3] => { results := [.lit (.bool true)], args := [d1, d2, d3] }
  | _ => none }
def calcSmoothsRow : OpenClaim := { program := "ytllphokepjekpaa", sum := "ff9201dfbff68587a8c3262acc602a57896876a7db71c897fa58b15aeae648f7", func := "weir/weirlaw06.CalcSmooths", spec := "calcSmooths", inPlace := ["math.Float64frombits", "math.Float64bits"], apart := false }
def CalcSmoothsSaid : Prop := calcSmoothsRow.holds Try.pinned (OpenSpec.ofChange calcSmoothsSpec)

/-- ITS FALSE NEIGHBOUR: 'it returns false'. Refute it at one input. -/
def calcSmoothsWrong : ChangeSpec := { name := "calcSmooths", fn := fun _ => fun
  | [d1, d2, d3] => { results := [.lit (.bool false)], args := [d1, d2, d3] }
  | _ => none }
def CalcSmoothsWrongFalsely : Prop := calcSmoothsRow.holds Try.pinned (OpenSpec.ofChange calcSmoothsWrong)

/-- 'weirlaw06.CalcWholes': WHATEVER THE INPUT: true; the input reads as it did. -/
def calcWholesSpec : ChangeSpec := { name := "calcWholes", fn := fun _ => fun
  | [d] => { results := [.lit (.bool true)], args := [d] }
  | _ => none }
def calcWholesRow : OpenClaim := { program := "ytllphokepjekpaa", sum := "ff9201dfbff68587a8c3262acc602a57896876a7db71c897fa58b15aeae648f7", func := "weir/weirlaw06.CalcWholes", spec := "calcWholes", inPlace := ["math.Float64bits", "math.Float64frombits"], unfollowed := true, recurses := true, apart := false }
def CalcWholesSaid : Prop := calcWholesRow.holds Try.pinned (OpenSpec.ofChange calcWholesSpec)

/-- ITS FALSE NEIGHBOUR: 'it returns false'. Refute it at one input. -/
def calcWholesWrong : ChangeSpec := { name := "calcWholes", fn := fun _ => fun
  | [d] => { results := [.lit (.bool false)], args := [d] }
  | _ => none }
def CalcWholesWrongFalsely : Prop := calcWholesRow.holds Try.pinned (OpenSpec.ofChange calcWholesWrong)

/-- 'weirlaw06.CalcSums': WHATEVER THE INPUT: true; the input reads as it did. -/
def calcSumsSpec : ChangeSpec := { name := "calcSums", fn := fun _ => fun
  | [d] => { results := [.lit (.bool true)], args := [d] }
  | _ => none }
def calcSumsRow : OpenClaim := { program := "ytllphokepjekpaa", sum := "ff9201dfbff68587a8c3262acc602a57896876a7db71c897fa58b15aeae648f7", func := "weir/weirlaw06.CalcSums", spec := "calcSums", inPlace := ["math.Float64bits", "math.Float64frombits", "math.sqrt"], unfollowed := true, recurses := true, apart := false }
def CalcSumsSaid : Prop := calcSumsRow.holds Try.pinned (OpenSpec.ofChange calcSumsSpec)

/-- ITS FALSE NEIGHBOUR: 'it returns false'. Refute it at one input. -/
def calcSumsWrong : ChangeSpec := { name := "calcSums", fn := fun _ => fun
  | [d] => { results := [.lit (.bool false)], args := [d] }
  | _ => none }
def CalcSumsWrongFalsely : Prop := calcSumsRow.holds Try.pinned (OpenSpec.ofChange calcSumsWrong)

/-- 'weirlaw06.CalcSamples': WHATEVER THE INPUT: true; the input reads as it did. -/
def calcSamplesSpec : ChangeSpec := { name := "calcSamples", fn := fun _ => fun
  | [d1, d2, d3] => { results := [.lit (.bool true)], args := [d1, d2, d3] }
  | _ => none }
def calcSamplesRow : OpenClaim := { program := "ytllphokepjekpaa", sum := "ff9201dfbff68587a8c3262acc602a57896876a7db71c897fa58b15aeae648f7", func := "weir/weirlaw06.CalcSamples", spec := "calcSamples", inPlace := ["math.Float64frombits", "math.Float64bits", "math.sqrt"], unfollowed := true, recurses := true, apart := false }
def CalcSamplesSaid : Prop := calcSamplesRow.holds Try.pinned (OpenSpec.ofChange calcSamplesSpec)

/-- ITS FALSE NEIGHBOUR: 'it returns false'. Refute it at one input. -/
def calcSamplesWrong : ChangeSpec := { name := "calcSamples", fn := fun _ => fun
  | [d1, d2, d3] => { results := [.lit (.bool false)], args := [d1, d2, d3] }
  | _ => none }
def CalcSamplesWrongFalsely : Prop := calcSamplesRow.holds Try.pinned (OpenSpec.ofChange calcSamplesWrong)

/-- 'weirlaw06.CalcMoves': WHATEVER THE INPUT: true; the input reads as it did. -/
def calcMovesSpec : ChangeSpec := { name := "calcMoves", fn := fun _ => fun
  | [d1, d2, d3, d4] => { results := [.lit (.bool true)], args := [d1, d2, d3, d4] }
  | _ => none }
def calcMovesRow : OpenClaim := { program := "ytllphokepjekpaa", sum := "ff9201dfbff68587a8c3262acc602a57896876a7db71c897fa58b15aeae648f7", func := "weir/weirlaw06.CalcMoves", spec := "calcMoves", inPlace := ["math.Float64frombits", "math.sqrt", "math.Float64bits"], unfollowed := true, recurses := true, apart := false }
def CalcMovesSaid : Prop := calcMovesRow.holds Try.pinned (OpenSpec.ofChange calcMovesSpec)

/-- ITS FALSE NEIGHBOUR: 'it returns false'. Refute it at one input. -/
def calcMovesWrong : ChangeSpec := { name := "calcMoves", fn := fun _ => fun
  | [d1, d2, d3, d4] => { results := [.lit (.bool false)], args := [d1, d2, d3, d4] }
  | _ => none }
def CalcMovesWrongFalsely : Prop := calcMovesRow.holds Try.pinned (OpenSpec.ofChange calcMovesWrong)

/-- 'weirlaw06.CalcBacks': WHATEVER THE INPUT: true; the input reads as it did. -/
def calcBacksSpec : ChangeSpec := { name := "calcBacks", fn := fun _ => fun
  | [d] => { results := [.lit (.bool true)], args := [d] }
  | _ => none }
def calcBacksRow : OpenClaim := { program := "ytllphokepjekpaa", sum := "ff9201dfbff68587a8c3262acc602a57896876a7db71c897fa58b15aeae648f7", func := "weir/weirlaw06.CalcBacks", spec := "calcBacks", inPlace := ["math.Float64frombits", "math.archFloor", "math.Float64bits", "math.archTrunc"], apart := false }
def CalcBacksSaid : Prop := calcBacksRow.holds Try.pinned (OpenSpec.ofChange calcBacksSpec)

/-- ITS FALSE NEIGHBOUR: 'it returns false'. Refute it at one input. -/
def calcBacksWrong : ChangeSpec := { name := "calcBacks", fn := fun _ => fun
  | [d] => { results := [.lit (.bool false)], args := [d] }
  | _ => none }
def CalcBacksWrongFalsely : Prop := calcBacksRow.holds Try.pinned (OpenSpec.ofChange calcBacksWrong)

/-- 'weirlaw06.CalcExps': WHATEVER THE INPUT: true; the input reads as it did. -/
def calcExpsSpec : ChangeSpec := { name := "calcExps", fn := fun _ => fun
  | [d] => { results := [.lit (.bool true)], args := [d] }
  | _ => none }
def calcExpsRow : OpenClaim := { program := "ytllphokepjekpaa", sum := "ff9201dfbff68587a8c3262acc602a57896876a7db71c897fa58b15aeae648f7", func := "weir/weirlaw06.CalcExps", spec := "calcExps", inPlace := ["math.Float64frombits", "math.archFloor", "math.Float64bits", "math.archTrunc"], apart := false }
def CalcExpsSaid : Prop := calcExpsRow.holds Try.pinned (OpenSpec.ofChange calcExpsSpec)

/-- ITS FALSE NEIGHBOUR: 'it returns false'. Refute it at one input. -/
def calcExpsWrong : ChangeSpec := { name := "calcExps", fn := fun _ => fun
  | [d] => { results := [.lit (.bool false)], args := [d] }
  | _ => none }
def CalcExpsWrongFalsely : Prop := calcExpsRow.holds Try.pinned (OpenSpec.ofChange calcExpsWrong)

/-- 'weirlaw06.CalcHistograms': WHATEVER THE INPUT: true; the input reads as it did. -/
def calcHistogramsSpec : ChangeSpec := { name := "calcHistograms", fn := fun _ => fun
  | [d1, d2] => { results := [.lit (.bool true)], args := [d1, d2] }
  | _ => none }
def calcHistogramsRow : OpenClaim := { program := "ytllphokepjekpaa", sum := "ff9201dfbff68587a8c3262acc602a57896876a7db71c897fa58b15aeae648f7", func := "weir/weirlaw06.CalcHistograms", spec := "calcHistograms", inPlace := ["math.Float64frombits", "math.Float64bits"], unfollowed := true, recurses := true, apart := false }
def CalcHistogramsSaid : Prop := calcHistogramsRow.holds Try.pinned (OpenSpec.ofChange calcHistogramsSpec)

/-- ITS FALSE NEIGHBOUR: 'it returns false'. Refute it at one input. -/
def calcHistogramsWrong : ChangeSpec := { name := "calcHistograms", fn := fun _ => fun
  | [d1, d2] => { results := [.lit (.bool false)], args := [d1, d2] }
  | _ => none }
def CalcHistogramsWrongFalsely : Prop := calcHistogramsRow.holds Try.pinned (OpenSpec.ofChange calcHistogramsWrong)

/-- 'weirlaw06.CalcRises': WHATEVER THE INPUT: true; the input reads as it did. -/
def calcRisesSpec : ChangeSpec := { name := "calcRises", fn := fun _ => fun
  | [d1, d2, d3, d4] => { results := [.lit (.bool true)], args := [d1, d2, d3, d4] }
  | _ => none }
def calcRisesRow : OpenClaim := { program := "ytllphokepjekpaa", sum := "ff9201dfbff68587a8c3262acc602a57896876a7db71c897fa58b15aeae648f7", func := "weir/weirlaw06.CalcRises", spec := "calcRises", inPlace := ["math.Float64frombits", "math.Float64bits"], unfollowed := true, recurses := true, apart := false }
def CalcRisesSaid : Prop := calcRisesRow.holds Try.pinned (OpenSpec.ofChange calcRisesSpec)

/-- ITS FALSE NEIGHBOUR: 'it returns false'. Refute it at one input. -/
def calcRisesWrong : ChangeSpec := { name := "calcRises", fn := fun _ => fun
  | [d1, d2, d3, d4] => { results := [.lit (.bool false)], args := [d1, d2, d3, d4] }
  | _ => none }
def CalcRisesWrongFalsely : Prop := calcRisesRow.holds Try.pinned (OpenSpec.ofChange calcRisesWrong)

/-- 'weirlaw06.CalcQuantiles': WHATEVER THE INPUT: true; the input reads as it did. -/
def calcQuantilesSpec : ChangeSpec := { name := "calcQuantiles", fn := fun _ => fun
  | [d1, d2] => { results := [.lit (.bool true)], args := [d1, d2] }
  | _ => none }
def calcQuantilesRow : OpenClaim := { program := "ytllphokepjekpaa", sum := "ff9201dfbff68587a8c3262acc602a57896876a7db71c897fa58b15aeae648f7", func := "weir/weirlaw06.CalcQuantiles", spec := "calcQuantiles", inPlace := ["math.Float64frombits", "math.archFloor", "math.Float64bits", "math.archTrunc"], unfollowed := true, recurses := true, apart := false }
def CalcQuantilesSaid : Prop := calcQuantilesRow.holds Try.pinned (OpenSpec.ofChange calcQuantilesSpec)

/-- ITS FALSE NEIGHBOUR: 'it returns false'. Refute it at one input. -/
def calcQuantilesWrong : ChangeSpec := { name := "calcQuantiles", fn := fun _ => fun
  | [d1, d2] => { results := [.lit (.bool false)], args := [d1, d2] }
  | _ => none }
def CalcQuantilesWrongFalsely : Prop := calcQuantilesRow.holds Try.pinned (OpenSpec.ofChange calcQuantilesWrong)

/-- 'weirlaw06.CalcPows': WHATEVER THE INPUT: true; the input reads as it did. -/
def calcPowsSpec : ChangeSpec := { name := "calcPows", fn := fun _ => fun
  | [d1, d2] => { results := [.lit (.bool true)], args := [d1, d2] }
  | _ => none }
def calcPowsRow : OpenClaim := { program := "ytllphokepjekpaa", sum := "ff9201dfbff68587a8c3262acc602a57896876a7db71c897fa58b15aeae648f7", func := "weir/weirlaw06.CalcPows", spec := "calcPows", inPlace := ["math.Float64frombits", "math.Float64bits", "math.archFloor", "math.archTrunc"], apart := false }
def CalcPowsSaid : Prop := calcPowsRow.holds Try.pinned (OpenSpec.ofChange calcPowsSpec)

/-- ITS FALSE NEIGHBOUR: 'it returns false'. Refute it at one input. -/
def calcPowsWrong : ChangeSpec := { name := "calcPows", fn := fun _ => fun
  | [d1, d2] => { results := [.lit (.bool false)], args := [d1, d2] }
  | _ => none }
def CalcPowsWrongFalsely : Prop := calcPowsRow.holds Try.pinned (OpenSpec.ofChange calcPowsWrong)

/-- 'weirlaw06.CalcLeaves': WHATEVER THE INPUT: true; the input reads as it did. -/
def calcLeavesSpec : ChangeSpec := { name := "calcLeaves", fn := fun _ => fun
  | [d1, d2, d3] => { results := [.lit (.bool true)], args := [d1, d2, d3] }
  | _ => none }
def calcLeavesRow : OpenClaim := { program := "ytllphokepjekpaa", sum := "ff9201dfbff68587a8c3262acc602a57896876a7db71c897fa58b15aeae648f7", func := "weir/weirlaw06.CalcLeaves", spec := "calcLeaves", inPlace := ["math.Float64frombits", "math.archFloor", "math.Float64bits", "math.archTrunc", "math.sqrt"], unfollowed := true, recurses := true, apart := false }
def CalcLeavesSaid : Prop := calcLeavesRow.holds Try.pinned (OpenSpec.ofChange calcLeavesSpec)

/-- ITS FALSE NEIGHBOUR: 'it returns false'. Refute it at one input. -/
def calcLeavesWrong : ChangeSpec := { name := "calcLeaves", fn := fun _ => fun
  | [d1, d2, d3] => { results := [.lit (.bool false)], args := [d1, d2, d3] }
  | _ => none }
def CalcLeavesWrongFalsely : Prop := calcLeavesRow.holds Try.pinned (OpenSpec.ofChange calcLeavesWrong)

/- THE SECOND FORM. 'bulk': how many values and letters a reading holds, each counted each time it is reached (what is shared counts as often as it is met; a slice's spare places count too). A statement '..UptoSaid' is the law's where the arguments, and the package variables that the reading takes, are together of bulk at most 1048576: NARROWER than '..Said'. Prove '..Said' where nothing that the law and all that it calls make is longer than what came in: it says more and counts as full. Else prove '..UptoSaid'. A law counts once. -/
mutual
def uptoBulk {H : Type} : DataW H → Nat
  | .lit (.string bytes) => bytes.length + 1
  | .lit _ => 1
  | .nil => 1
  | .ptr d => uptoBulk d + 1
  | .slice elems spare => uptoBulkAll elems + uptoBulkAll spare + 1
  | .agg parts => uptoBulkAll parts + 1
  | .iface _ d => uptoBulk d + 1
  | .map entries => uptoBulkEntries entries + 1
  | .held _ => 1
def uptoBulkAll {H : Type} : List (DataW H) → Nat
  | [] => 0
  | d :: r => uptoBulk d + uptoBulkAll r
def uptoBulkEntries {H : Type} : List (Lit × DataW H) → Nat
  | [] => 0
  | x :: r => uptoBulkEntry x + uptoBulkEntries r
def uptoBulkEntry {H : Type} : Lit × DataW H → Nat
  | (.string bytes, d) => bytes.length + uptoBulk d + 1
  | (_, d) => uptoBulk d + 1
 end
def uptoSmall : (H : Type) → List (DataW H) → Bool := fun _ ds => decide (uptoBulkAll ds ≤ 1048576)
def OpenSpec.upto (s : _root_.Go.ChangeSpec) : _root_.Go.OpenSpec := { _root_.Go.OpenSpec.ofChange s with cond := some uptoSmall }

/-- 'weirlaw06.CalcSmooths', WHERE WHAT IT READS IS OF BULK AT MOST 1048576: true; the input reads as it did. -/
def calcSmoothsUptoRow : OpenClaim := { program := "ytllphokepjekpaa", sum := "ff9201dfbff68587a8c3262acc602a57896876a7db71c897fa58b15aeae648f7", func := "weir/weirlaw06.CalcSmooths", spec := "calcSmooths", inPlace := ["math.Float64frombits", "math.Float64bits"], apart := false, narrowed := true }
def CalcSmoothsUptoSaid : Prop := calcSmoothsUptoRow.holds Try.pinned (OpenSpec.upto calcSmoothsSpec)

/-- 'weirlaw06.CalcWholes', WHERE WHAT IT READS IS OF BULK AT MOST 1048576: true; the input reads as it did. -/
def calcWholesUptoRow : OpenClaim := { program := "ytllphokepjekpaa", sum := "ff9201dfbff68587a8c3262acc602a57896876a7db71c897fa58b15aeae648f7", func := "weir/weirlaw06.CalcWholes", spec := "calcWholes", inPlace := ["math.Float64bits", "math.Float64frombits"], unfollowed := true, recurses := true, apart := false, narrowed := true }
def CalcWholesUptoSaid : Prop := calcWholesUptoRow.holds Try.pinned (OpenSpec.upto calcWholesSpec)

/-- 'weirlaw06.CalcSums', WHERE WHAT IT READS IS OF BULK AT MOST 1048576: true; the input reads as it did. -/
def calcSumsUptoRow : OpenClaim := { program := "ytllphokepjekpaa", sum := "ff9201dfbff68587a8c3262acc602a57896876a7db71c897fa58b15aeae648f7", func := "weir/weirlaw06.CalcSums", spec := "calcSums", inPlace := ["math.Float64bits", "math.Float64frombits", "math.sqrt"], unfollowed := true, recurses := true, apart := false, narrowed := true }
def CalcSumsUptoSaid : Prop := calcSumsUptoRow.holds Try.pinned (OpenSpec.upto calcSumsSpec)

/-- 'weirlaw06.CalcSamples', WHERE WHAT IT READS IS OF BULK AT MOST 1048576: true; the input reads as it did. -/
def calcSamplesUptoRow : OpenClaim := { program := "ytllphokepjekpaa", sum := "ff9201dfbff68587a8c3262acc602a57896876a7db71c897fa58b15aeae648f7", func := "weir/weirlaw06.CalcSamples", spec := "calcSamples", inPlace := ["math.Float64frombits", "math.Float64bits", "math.sqrt"], unfollowed := true, recurses := true, apart := false, narrowed := true }
def CalcSamplesUptoSaid : Prop := calcSamplesUptoRow.holds Try.pinned (OpenSpec.upto calcSamplesSpec)

/-- 'weirlaw06.CalcMoves', WHERE WHAT IT READS IS OF BULK AT MOST 1048576: true; the input reads as it did. -/
def calcMovesUptoRow : OpenClaim := { program := "ytllphokepjekpaa", sum := "ff9201dfbff68587a8c3262acc602a57896876a7db71c897fa58b15aeae648f7", func := "weir/weirlaw06.CalcMoves", spec := "calcMoves", inPlace := ["math.Float64frombits", "math.sqrt", "math.Float64bits"], unfollowed := true, recurses := true, apart := false, narrowed := true }
def CalcMovesUptoSaid : Prop := calcMovesUptoRow.holds Try.pinned (OpenSpec.upto calcMovesSpec)

/-- 'weirlaw06.CalcBacks', WHERE WHAT IT READS IS OF BULK AT MOST 1048576: true; the input reads as it did. -/
def calcBacksUptoRow : OpenClaim := { program := "ytllphokepjekpaa", sum := "ff9201dfbff68587a8c3262acc602a57896876a7db71c897fa58b15aeae648f7", func := "weir/weirlaw06.CalcBacks", spec := "calcBacks", inPlace := ["math.Float64frombits", "math.archFloor", "math.Float64bits", "math.archTrunc"], apart := false, narrowed := true }
def CalcBacksUptoSaid : Prop := calcBacksUptoRow.holds Try.pinned (OpenSpec.upto calcBacksSpec)

/-- 'weirlaw06.CalcExps', WHERE WHAT IT READS IS OF BULK AT MOST 1048576: true; the input reads as it did. -/
def calcExpsUptoRow : OpenClaim := { program := "ytllphokepjekpaa", sum := "ff9201dfbff68587a8c3262acc602a57896876a7db71c897fa58b15aeae648f7", func := "weir/weirlaw06.CalcExps", spec := "calcExps", inPlace := ["math.Float64frombits", "math.archFloor", "math.Float64bits", "math.archTrunc"], apart := false, narrowed := true }
def CalcExpsUptoSaid : Prop := calcExpsUptoRow.holds Try.pinned (OpenSpec.upto calcExpsSpec)

/-- 'weirlaw06.CalcHistograms', WHERE WHAT IT READS IS OF BULK AT MOST 1048576: true; the input reads as it did. -/
def calcHistogramsUptoRow : OpenClaim := { program := "ytllphokepjekpaa", sum := "ff9201dfbff68587a8c3262acc602a57896876a7db71c897fa58b15aeae648f7", func := "weir/weirlaw06.CalcHistograms", spec := "calcHistograms", inPlace := ["math.Float64frombits", "math.Float64bits"], unfollowed := true, recurses := true, apart := false, narrowed := true }
def CalcHistogramsUptoSaid : Prop := calcHistogramsUptoRow.holds Try.pinned (OpenSpec.upto calcHistogramsSpec)

/-- 'weirlaw06.CalcRises', WHERE WHAT IT READS IS OF BULK AT MOST 1048576: true; the input reads as it did. -/
def calcRisesUptoRow : OpenClaim := { program := "ytllphokepjekpaa", sum := "ff9201dfbff68587a8c3262acc602a57896876a7db71c897fa58b15aeae648f7", func := "weir/weirlaw06.CalcRises", spec := "calcRises", inPlace := ["math.Float64frombits", "math.Float64bits"], unfollowed := true, recurses := true, apart := false, narrowed := true }
def CalcRisesUptoSaid : Prop := calcRisesUptoRow.holds Try.pinned (OpenSpec.upto calcRisesSpec)

/-- 'weirlaw06.CalcQuantiles', WHERE WHAT IT READS IS OF BULK AT MOST 1048576: true; the input reads as it did. -/
def calcQuantilesUptoRow : OpenClaim := { program := "ytllphokepjekpaa", sum := "ff9201dfbff68587a8c3262acc602a57896876a7db71c897fa58b15aeae648f7", func := "weir/weirlaw06.CalcQuantiles", spec := "calcQuantiles", inPlace := ["math.Float64frombits", "math.archFloor", "math.Float64bits", "math.archTrunc"], unfollowed := true, recurses := true, apart := false, narrowed := true }
def CalcQuantilesUptoSaid : Prop := calcQuantilesUptoRow.holds Try.pinned (OpenSpec.upto calcQuantilesSpec)

/-- 'weirlaw06.CalcPows', WHERE WHAT IT READS IS OF BULK AT MOST 1048576: true; the input reads as it did. -/
def calcPowsUptoRow : OpenClaim := { program := "ytllphokepjekpaa", sum := "ff9201dfbff68587a8c3262acc602a57896876a7db71c897fa58b15aeae648f7", func := "weir/weirlaw06.CalcPows", spec := "calcPows", inPlace := ["math.Float64frombits", "math.Float64bits", "math.archFloor", "math.archTrunc"], apart := false, narrowed := true }
def CalcPowsUptoSaid : Prop := calcPowsUptoRow.holds Try.pinned (OpenSpec.upto calcPowsSpec)

/-- 'weirlaw06.CalcLeaves', WHERE WHAT IT READS IS OF BULK AT MOST 1048576: true; the input reads as it did. -/
def calcLeavesUptoRow : OpenClaim := { program := "ytllphokepjekpaa", sum := "ff9201dfbff68587a8c3262acc602a57896876a7db71c897fa58b15aeae648f7", func := "weir/weirlaw06.CalcLeaves", spec := "calcLeaves", inPlace := ["math.Float64frombits", "math.archFloor", "math.Float64bits", "math.archTrunc", "math.sqrt"], unfollowed := true, recurses := true, apart := false, narrowed := true }
def CalcLeavesUptoSaid : Prop := calcLeavesUptoRow.holds Try.pinned (OpenSpec.upto calcLeavesSpec)

end Rows
end Go.Proofs.Ytllphokepjekpaa
