/-
  DERIVED. GIVEN WITH THE SEED: THE CARDS: each row of YtmgnhekpgeahmaaDoorRows.lean that lists a variable, with what it lists TIED to the program's text (the seventh form; the later family's looks); each row that meets fmt, with fmt's text TOLD by the authors' own Lean function (tested against real Go, not proved from fmt's source: count such statements apart). THE CARD IS WHAT COUNTS. Prove the row's statement (the work); the ties are given (YtmgnhekpgeahmaaDoorTie.lean); close each card by the builder's one call (the guide's Derived/Test/ToyasCard.lean, 'card_holds'). Laid BY PROGRAM, IN A SANDBOX (cutbox-door.mjs). By AI agents, Wed Nov 11 2026. No macro, syntax, notation, axiom, sorry.
-/
import Derived.Test.YtmgnhekpgeahmaaDoorRows
import GoSem.ClaimSeven
namespace Go.Proofs.YtmgnhekpgeahmaaDoor
namespace Rows

/-- THE TIED CARD OF 'weirlaw03.SpanTells'. -/
def spanTellsCard : Claim7 := { stood := { row := spanTellsRow, standIns := [], harness := (true, "f896912997e5db6ca384ad4ebb69b28d4f690e1d89ae2f49e0f963158ff58bc5"), looks := false }, kinds := [], alts := [], laidByText := true, laidKinds := [.data, .data, .data], laidTests := true, laidLooks := .later }
def SpanTellsCardSaid : Prop := Claim7.holds Tryd.pinned (.plain (OpenSpec.ofChange spanTellsSpec)) spanTellsCard

/-- THE TIED CARD OF 'weirlaw03.SpanBack'. -/
def spanBackCard : Claim7 := { stood := { row := spanBackRow, standIns := [], harness := (true, "f896912997e5db6ca384ad4ebb69b28d4f690e1d89ae2f49e0f963158ff58bc5"), looks := false }, kinds := [], alts := [], laidByText := true, laidKinds := [.data, .data, .data], laidTests := true, laidLooks := .later }
def SpanBackCardSaid : Prop := Claim7.holds Tryd.pinned (.plain (OpenSpec.ofChange spanBackSpec)) spanBackCard

/-- THE TIED CARD OF 'weirlaw03.SpanRound'. -/
def spanRoundCard : Claim7 := { stood := { row := spanRoundRow, standIns := [], harness := (true, "f896912997e5db6ca384ad4ebb69b28d4f690e1d89ae2f49e0f963158ff58bc5"), looks := false }, kinds := [], alts := [], laidByText := true, laidKinds := [.data, .data, .data], laidTests := true, laidLooks := .later }
def SpanRoundCardSaid : Prop := Claim7.holds Tryd.pinned (.plain (OpenSpec.ofChange spanRoundSpec)) spanRoundCard

/-- THE SECOND FORM's CARD OF 'weirlaw03.SpanTells'. -/
def spanTellsUptoCard : Claim7 := { stood := { row := spanTellsUptoRow, standIns := [], harness := (true, "f896912997e5db6ca384ad4ebb69b28d4f690e1d89ae2f49e0f963158ff58bc5"), looks := false }, kinds := [], alts := [], laidByText := true, laidKinds := [.data, .data, .data], laidTests := true, laidLooks := .later }
def SpanTellsUptoCardSaid : Prop := Claim7.holds Tryd.pinned (.plain (OpenSpec.upto spanTellsSpec)) spanTellsUptoCard

/-- THE SECOND FORM's CARD OF 'weirlaw03.SpanBack'. -/
def spanBackUptoCard : Claim7 := { stood := { row := spanBackUptoRow, standIns := [], harness := (true, "f896912997e5db6ca384ad4ebb69b28d4f690e1d89ae2f49e0f963158ff58bc5"), looks := false }, kinds := [], alts := [], laidByText := true, laidKinds := [.data, .data, .data], laidTests := true, laidLooks := .later }
def SpanBackUptoCardSaid : Prop := Claim7.holds Tryd.pinned (.plain (OpenSpec.upto spanBackSpec)) spanBackUptoCard

/-- THE SECOND FORM's CARD OF 'weirlaw03.SpanRound'. -/
def spanRoundUptoCard : Claim7 := { stood := { row := spanRoundUptoRow, standIns := [], harness := (true, "f896912997e5db6ca384ad4ebb69b28d4f690e1d89ae2f49e0f963158ff58bc5"), looks := false }, kinds := [], alts := [], laidByText := true, laidKinds := [.data, .data, .data], laidTests := true, laidLooks := .later }
def SpanRoundUptoCardSaid : Prop := Claim7.holds Tryd.pinned (.plain (OpenSpec.upto spanRoundSpec)) spanRoundUptoCard
end Rows
end Go.Proofs.YtmgnhekpgeahmaaDoor
