/-
  No cell of these rows narrows 'for every input' (looked for: loops, veiled, ifaces, maps, wideKeys, modest, calm, conditions, laid).
  DERIVED. THE GIVEN ROWS OF THIS SEAT. 6 by the template 'for every input the law returns true; each argument reads behind the call as it read before'; 0 by the template 'total and deterministic' (their statements: YtmgnhekpgeahmaaTotals.lean).
  GIVEN WITH THE SEED: the statements are not yours to turn. If you find one false, say at which input.
  Laid BY PROGRAM, IN A SANDBOX (cutbox-rows.mjs): the forced cells as the released guide's own fill.sh prints them over the translation ffcb556976651a64… (all of the seat's roots in one cut). By AI agents, Wed Nov 11 2026. No macro, syntax, notation, axiom, sorry.
-/
import Derived.Test.YtmgnhekpgeahmaaChecked
import GoSem.Claim
import GoSem.ClaimJoined
import GoSem.ClaimMapViews
import Derived.JoinedTies
import Derived.KernelRfl
namespace Go.Proofs.Ytmgnhekpgeahmaa
/- THE CELL 'sum', in the pinned program and in every row, IS THE sha256 OF THE DUMP (.gsa) THAT YtmgnhekpgeahmaaProg.lean LOADS. Nothing in Lean hashes anything: it is a label: what it is worth is what the hold of that sum in a sandbox is worth. -/
noncomputable def Try.pinned : Pinned := { name := "ytmgnhekpgeahmaa", sum := "ffcb556976651a642d3166a604ccc82517cdec15a241957c327c4038e6e0a434", checked := Try.checked }
namespace Rows
def none {H : Type} : Left H := { results := [], args := [] }

/-- 'weirlaw03.SpanMoments': WHATEVER THE INPUT: true; the input reads as it did. -/
def spanMomentsSpec : ChangeSpec := { name := "spanMoments", fn := fun _ => fun
  | [d] => { results := [.lit (.bool true)], args := [d] }
  | _ => none }
def spanMomentsRow : OpenClaim := { program := "ytmgnhekpgeahmaa", sum := "ffcb556976651a642d3166a604ccc82517cdec15a241957c327c4038e6e0a434", func := "weir/weirlaw03.SpanMoments", spec := "spanMoments", apart := false }
def SpanMomentsSaid : Prop := spanMomentsRow.holds Try.pinned (OpenSpec.ofChange spanMomentsSpec)

/-- ITS FALSE NEIGHBOUR: 'it returns false'. Refute it at one input. -/
def spanMomentsWrong : ChangeSpec := { name := "spanMoments", fn := fun _ => fun
  | [d] => { results := [.lit (.bool false)], args := [d] }
  | _ => none }
def SpanMomentsWrongFalsely : Prop := spanMomentsRow.holds Try.pinned (OpenSpec.ofChange spanMomentsWrong)

/-- 'weirlaw03.SpanDays': WHATEVER THE INPUT: true; the input reads as it did. -/
def spanDaysSpec : ChangeSpec := { name := "spanDays", fn := fun _ => fun
  | [d] => { results := [.lit (.bool true)], args := [d] }
  | _ => none }
def spanDaysRow : OpenClaim := { program := "ytmgnhekpgeahmaa", sum := "ffcb556976651a642d3166a604ccc82517cdec15a241957c327c4038e6e0a434", func := "weir/weirlaw03.SpanDays", spec := "spanDays", apart := false }
def SpanDaysSaid : Prop := spanDaysRow.holds Try.pinned (OpenSpec.ofChange spanDaysSpec)

/-- ITS FALSE NEIGHBOUR: 'it returns false'. Refute it at one input. -/
def spanDaysWrong : ChangeSpec := { name := "spanDays", fn := fun _ => fun
  | [d] => { results := [.lit (.bool false)], args := [d] }
  | _ => none }
def SpanDaysWrongFalsely : Prop := spanDaysRow.holds Try.pinned (OpenSpec.ofChange spanDaysWrong)

/-- 'weirlaw03.SpanMillis': WHATEVER THE INPUT: true; the input reads as it did. -/
def spanMillisSpec : ChangeSpec := { name := "spanMillis", fn := fun _ => fun
  | [d] => { results := [.lit (.bool true)], args := [d] }
  | _ => none }
def spanMillisRow : OpenClaim := { program := "ytmgnhekpgeahmaa", sum := "ffcb556976651a642d3166a604ccc82517cdec15a241957c327c4038e6e0a434", func := "weir/weirlaw03.SpanMillis", spec := "spanMillis", inPlace := ["math.archFloor", "math.Float64bits", "math.Float64frombits", "math.archTrunc"], apart := false }
def SpanMillisSaid : Prop := spanMillisRow.holds Try.pinned (OpenSpec.ofChange spanMillisSpec)

/-- ITS FALSE NEIGHBOUR: 'it returns false'. Refute it at one input. -/
def spanMillisWrong : ChangeSpec := { name := "spanMillis", fn := fun _ => fun
  | [d] => { results := [.lit (.bool false)], args := [d] }
  | _ => none }
def SpanMillisWrongFalsely : Prop := spanMillisRow.holds Try.pinned (OpenSpec.ofChange spanMillisWrong)

/-- 'weirlaw03.SpanDurations': WHATEVER THE INPUT: true; the input reads as it did. -/
def spanDurationsSpec : ChangeSpec := { name := "spanDurations", fn := fun _ => fun
  | [d] => { results := [.lit (.bool true)], args := [d] }
  | _ => none }
def spanDurationsRow : OpenClaim := { program := "ytmgnhekpgeahmaa", sum := "ffcb556976651a642d3166a604ccc82517cdec15a241957c327c4038e6e0a434", func := "weir/weirlaw03.SpanDurations", spec := "spanDurations", apart := false }
def SpanDurationsSaid : Prop := spanDurationsRow.holds Try.pinned (OpenSpec.ofChange spanDurationsSpec)

/-- ITS FALSE NEIGHBOUR: 'it returns false'. Refute it at one input. -/
def spanDurationsWrong : ChangeSpec := { name := "spanDurations", fn := fun _ => fun
  | [d] => { results := [.lit (.bool false)], args := [d] }
  | _ => none }
def SpanDurationsWrongFalsely : Prop := spanDurationsRow.holds Try.pinned (OpenSpec.ofChange spanDurationsWrong)

/-- 'weirlaw03.SpanOffsets': WHATEVER THE INPUT: true; the input reads as it did. -/
def spanOffsetsSpec : ChangeSpec := { name := "spanOffsets", fn := fun _ => fun
  | [d1, d2] => { results := [.lit (.bool true)], args := [d1, d2] }
  | _ => none }
def spanOffsetsRow : OpenClaim := { program := "ytmgnhekpgeahmaa", sum := "ffcb556976651a642d3166a604ccc82517cdec15a241957c327c4038e6e0a434", func := "weir/weirlaw03.SpanOffsets", spec := "spanOffsets", apart := false }
def SpanOffsetsSaid : Prop := spanOffsetsRow.holds Try.pinned (OpenSpec.ofChange spanOffsetsSpec)

/-- ITS FALSE NEIGHBOUR: 'it returns false'. Refute it at one input. -/
def spanOffsetsWrong : ChangeSpec := { name := "spanOffsets", fn := fun _ => fun
  | [d1, d2] => { results := [.lit (.bool false)], args := [d1, d2] }
  | _ => none }
def SpanOffsetsWrongFalsely : Prop := spanOffsetsRow.holds Try.pinned (OpenSpec.ofChange spanOffsetsWrong)

/-- 'weirlaw03.SpanStamps': WHATEVER THE INPUT: true; the input reads as it did. -/
def spanStampsSpec : ChangeSpec := { name := "spanStamps", fn := fun _ => fun
  | [d] => { results := [.lit (.bool true)], args := [d] }
  | _ => none }
def spanStampsRow : OpenClaim := { program := "ytmgnhekpgeahmaa", sum := "ffcb556976651a642d3166a604ccc82517cdec15a241957c327c4038e6e0a434", func := "weir/weirlaw03.SpanStamps", spec := "spanStamps", apart := false }
def SpanStampsSaid : Prop := spanStampsRow.holds Try.pinned (OpenSpec.ofChange spanStampsSpec)

/-- ITS FALSE NEIGHBOUR: 'it returns false'. Refute it at one input. -/
def spanStampsWrong : ChangeSpec := { name := "spanStamps", fn := fun _ => fun
  | [d] => { results := [.lit (.bool false)], args := [d] }
  | _ => none }
def SpanStampsWrongFalsely : Prop := spanStampsRow.holds Try.pinned (OpenSpec.ofChange spanStampsWrong)

/- THE SECOND FORM. 'bulk': how many values and letters a reading holds, each counted each time it is reached (what is shared counts as often as it is met; a slice's spare places count too). A statement '..UptoSaid' is the law's where the arguments, and the package variables that the reading takes, are together of bulk at most 1048576: NARROWER than '..Said'. Prove '..Said' where nothing that the law and all that it calls make is longer than what came in: it says more and counts as full. Else prove '..UptoSaid'. A law counts once. -/
mutual
def uptoBulk {H : Type} : DataW H → Nat
  | .lit (.string bytes) => bytes.length + 1
  | .lit _ => 1
  | .nil => 1
  | .ptr d => uptoBulk d + 1
  | .slice elems spare => uptoBulkAll elems + uptoBulkAll spare + 1
  | .agg parts => uptoBulkAll parts + 1
  | .iface _ d => uptoBulk d + 1
  | .map entries => uptoBulkEntries entries + 1
  | .held _ => 1
def uptoBulkAll {H : Type} : List (DataW H) → Nat
  | [] => 0
  | d :: r => uptoBulk d + uptoBulkAll r
def uptoBulkEntries {H : Type} : List (Lit × DataW H) → Nat
  | [] => 0
  | x :: r => uptoBulkEntry x + uptoBulkEntries r
def uptoBulkEntry {H : Type} : Lit × DataW H → Nat
  | (.string bytes, d) => bytes.length + uptoBulk d + 1
  | (_, d) => uptoBulk d + 1
 end
def uptoSmall : (H : Type) → List (DataW H) → Bool := fun _ ds => decide (uptoBulkAll ds ≤ 1048576)
def OpenSpec.upto (s : _root_.Go.ChangeSpec) : _root_.Go.OpenSpec := { _root_.Go.OpenSpec.ofChange s with cond := some uptoSmall }

/-- 'weirlaw03.SpanMoments', WHERE WHAT IT READS IS OF BULK AT MOST 1048576: true; the input reads as it did. -/
def spanMomentsUptoRow : OpenClaim := { program := "ytmgnhekpgeahmaa", sum := "ffcb556976651a642d3166a604ccc82517cdec15a241957c327c4038e6e0a434", func := "weir/weirlaw03.SpanMoments", spec := "spanMoments", apart := false, narrowed := true }
def SpanMomentsUptoSaid : Prop := spanMomentsUptoRow.holds Try.pinned (OpenSpec.upto spanMomentsSpec)

/-- 'weirlaw03.SpanDays', WHERE WHAT IT READS IS OF BULK AT MOST 1048576: true; the input reads as it did. -/
def spanDaysUptoRow : OpenClaim := { program := "ytmgnhekpgeahmaa", sum := "ffcb556976651a642d3166a604ccc82517cdec15a241957c327c4038e6e0a434", func := "weir/weirlaw03.SpanDays", spec := "spanDays", apart := false, narrowed := true }
def SpanDaysUptoSaid : Prop := spanDaysUptoRow.holds Try.pinned (OpenSpec.upto spanDaysSpec)

/-- 'weirlaw03.SpanMillis', WHERE WHAT IT READS IS OF BULK AT MOST 1048576: true; the input reads as it did. -/
def spanMillisUptoRow : OpenClaim := { program := "ytmgnhekpgeahmaa", sum := "ffcb556976651a642d3166a604ccc82517cdec15a241957c327c4038e6e0a434", func := "weir/weirlaw03.SpanMillis", spec := "spanMillis", inPlace := ["math.archFloor", "math.Float64bits", "math.Float64frombits", "math.archTrunc"], apart := false, narrowed := true }
def SpanMillisUptoSaid : Prop := spanMillisUptoRow.holds Try.pinned (OpenSpec.upto spanMillisSpec)

/-- 'weirlaw03.SpanDurations', WHERE WHAT IT READS IS OF BULK AT MOST 1048576: true; the input reads as it did. -/
def spanDurationsUptoRow : OpenClaim := { program := "ytmgnhekpgeahmaa", sum := "ffcb556976651a642d3166a604ccc82517cdec15a241957c327c4038e6e0a434", func := "weir/weirlaw03.SpanDurations", spec := "spanDurations", apart := false, narrowed := true }
def SpanDurationsUptoSaid : Prop := spanDurationsUptoRow.holds Try.pinned (OpenSpec.upto spanDurationsSpec)

/-- 'weirlaw03.SpanOffsets', WHERE WHAT IT READS IS OF BULK AT MOST 1048576: true; the input reads as it did. -/
def spanOffsetsUptoRow : OpenClaim := { program := "ytmgnhekpgeahmaa", sum := "ffcb556976651a642d3166a604ccc82517cdec15a241957c327c4038e6e0a434", func := "weir/weirlaw03.SpanOffsets", spec := "spanOffsets", apart := false, narrowed := true }
def SpanOffsetsUptoSaid : Prop := spanOffsetsUptoRow.holds Try.pinned (OpenSpec.upto spanOffsetsSpec)

/-- 'weirlaw03.SpanStamps', WHERE WHAT IT READS IS OF BULK AT MOST 1048576: true; the input reads as it did. -/
def spanStampsUptoRow : OpenClaim := { program := "ytmgnhekpgeahmaa", sum := "ffcb556976651a642d3166a604ccc82517cdec15a241957c327c4038e6e0a434", func := "weir/weirlaw03.SpanStamps", spec := "spanStamps", apart := false, narrowed := true }
def SpanStampsUptoSaid : Prop := spanStampsUptoRow.holds Try.pinned (OpenSpec.upto spanStampsSpec)

end Rows
end Go.Proofs.Ytmgnhekpgeahmaa
