/-
  DERIVED. GIVEN WITH THE SEED: THE CARDS: each row of YtmmfjknnbkcniaaGreatDoorRows.lean that lists a variable, with what it lists TIED to the program's text (the seventh form; the later family's looks); each row that meets fmt, with fmt's text TOLD by the authors' own Lean function (tested against real Go, not proved from fmt's source: count such statements apart). THE CARD IS WHAT COUNTS. Prove the row's statement (the work); the ties are given (YtmmfjknnbkcniaaGreatDoorTie.lean); close each card by the builder's one call (the guide's Derived/Test/ToyasCard.lean, 'card_holds'). Laid BY PROGRAM, IN A SANDBOX (cutbox-door.mjs). By AI agents, Wed Nov 11 2026. No macro, syntax, notation, axiom, sorry.
-/
import Derived.Test.YtmmfjknnbkcniaaGreatDoorRows
import GoSem.ClaimSeven
namespace Go.Proofs.YtmmfjknnbkcniaaGreatDoor
namespace Rows

/-- THE TIED CARD OF 'weirlaw21.PairKeeps'. -/
def pairKeepsCard : Claim7 := { stood := { row := pairKeepsRow, standIns := [], harness := (true, "cbde20c61ce3813a23feec083a5e00d9e8f3e76ff350b6a63cbfac866cd0d443"), looks := false }, kinds := [], alts := [], laidByText := true, laidKinds := [.data, .data, .data], laidTests := true, laidLooks := .later }
def PairKeepsCardSaid : Prop := Claim7.holds Tryz.pinned (.plain (OpenSpec.ofChange pairKeepsSpec)) pairKeepsCard

/-- THE TIED CARD OF 'weirlaw21.PairEach'. -/
def pairEachCard : Claim7 := { stood := { row := pairEachRow, standIns := [], harness := (true, "cbde20c61ce3813a23feec083a5e00d9e8f3e76ff350b6a63cbfac866cd0d443"), looks := false }, kinds := [], alts := [], laidByText := true, laidKinds := [.data, .data, .data], laidTests := true, laidLooks := .later }
def PairEachCardSaid : Prop := Claim7.holds Tryz.pinned (.plain (OpenSpec.ofChange pairEachSpec)) pairEachCard

/-- THE TIED CARD OF 'weirlaw21.PairVectors'. -/
def pairVectorsCard : Claim7 := { stood := { row := pairVectorsRow, standIns := [], harness := (true, "cbde20c61ce3813a23feec083a5e00d9e8f3e76ff350b6a63cbfac866cd0d443"), looks := false }, kinds := [], alts := [], laidByText := true, laidKinds := [.data, .data, .data], laidTests := true, laidLooks := .later }
def PairVectorsCardSaid : Prop := Claim7.holds Tryz.pinned (.plain (OpenSpec.ofChange pairVectorsSpec)) pairVectorsCard

/-- THE TIED CARD OF 'weirlaw21.PairSets'. -/
def pairSetsCard : Claim7 := { stood := { row := pairSetsRow, standIns := [], harness := (true, "cbde20c61ce3813a23feec083a5e00d9e8f3e76ff350b6a63cbfac866cd0d443"), looks := false }, kinds := [], alts := [], laidByText := true, laidKinds := [.data, .data, .data], laidTests := true, laidLooks := .later }
def PairSetsCardSaid : Prop := Claim7.holds Tryz.pinned (.plain (OpenSpec.ofChange pairSetsSpec)) pairSetsCard

/-- THE TIED CARD OF 'weirlaw21.PairSides'. -/
def pairSidesCard : Claim7 := { stood := { row := pairSidesRow, standIns := [], harness := (true, "cbde20c61ce3813a23feec083a5e00d9e8f3e76ff350b6a63cbfac866cd0d443"), looks := false }, kinds := [], alts := [], laidByText := true, laidKinds := [.data, .data, .data], laidTests := true, laidLooks := .later }
def PairSidesCardSaid : Prop := Claim7.holds Tryz.pinned (.plain (OpenSpec.ofChange pairSidesSpec)) pairSidesCard

/-- THE TIED CARD OF 'weirlaw21.PairLoose'. -/
def pairLooseCard : Claim7 := { stood := { row := pairLooseRow, standIns := [], harness := (true, "cbde20c61ce3813a23feec083a5e00d9e8f3e76ff350b6a63cbfac866cd0d443"), looks := false }, kinds := [], alts := [], laidByText := true, laidKinds := [.data, .data, .data], laidTests := true, laidLooks := .later }
def PairLooseCardSaid : Prop := Claim7.holds Tryz.pinned (.plain (OpenSpec.ofChange pairLooseSpec)) pairLooseCard

/-- THE SECOND FORM's CARD OF 'weirlaw21.PairKeeps'. -/
def pairKeepsUptoCard : Claim7 := { stood := { row := pairKeepsUptoRow, standIns := [], harness := (true, "cbde20c61ce3813a23feec083a5e00d9e8f3e76ff350b6a63cbfac866cd0d443"), looks := false }, kinds := [], alts := [], laidByText := true, laidKinds := [.data, .data, .data], laidTests := true, laidLooks := .later }
def PairKeepsUptoCardSaid : Prop := Claim7.holds Tryz.pinned (.plain (OpenSpec.upto pairKeepsSpec)) pairKeepsUptoCard

/-- THE SECOND FORM's CARD OF 'weirlaw21.PairEach'. -/
def pairEachUptoCard : Claim7 := { stood := { row := pairEachUptoRow, standIns := [], harness := (true, "cbde20c61ce3813a23feec083a5e00d9e8f3e76ff350b6a63cbfac866cd0d443"), looks := false }, kinds := [], alts := [], laidByText := true, laidKinds := [.data, .data, .data], laidTests := true, laidLooks := .later }
def PairEachUptoCardSaid : Prop := Claim7.holds Tryz.pinned (.plain (OpenSpec.upto pairEachSpec)) pairEachUptoCard

/-- THE SECOND FORM's CARD OF 'weirlaw21.PairVectors'. -/
def pairVectorsUptoCard : Claim7 := { stood := { row := pairVectorsUptoRow, standIns := [], harness := (true, "cbde20c61ce3813a23feec083a5e00d9e8f3e76ff350b6a63cbfac866cd0d443"), looks := false }, kinds := [], alts := [], laidByText := true, laidKinds := [.data, .data, .data], laidTests := true, laidLooks := .later }
def PairVectorsUptoCardSaid : Prop := Claim7.holds Tryz.pinned (.plain (OpenSpec.upto pairVectorsSpec)) pairVectorsUptoCard

/-- THE SECOND FORM's CARD OF 'weirlaw21.PairSets'. -/
def pairSetsUptoCard : Claim7 := { stood := { row := pairSetsUptoRow, standIns := [], harness := (true, "cbde20c61ce3813a23feec083a5e00d9e8f3e76ff350b6a63cbfac866cd0d443"), looks := false }, kinds := [], alts := [], laidByText := true, laidKinds := [.data, .data, .data], laidTests := true, laidLooks := .later }
def PairSetsUptoCardSaid : Prop := Claim7.holds Tryz.pinned (.plain (OpenSpec.upto pairSetsSpec)) pairSetsUptoCard

/-- THE SECOND FORM's CARD OF 'weirlaw21.PairSides'. -/
def pairSidesUptoCard : Claim7 := { stood := { row := pairSidesUptoRow, standIns := [], harness := (true, "cbde20c61ce3813a23feec083a5e00d9e8f3e76ff350b6a63cbfac866cd0d443"), looks := false }, kinds := [], alts := [], laidByText := true, laidKinds := [.data, .data, .data], laidTests := true, laidLooks := .later }
def PairSidesUptoCardSaid : Prop := Claim7.holds Tryz.pinned (.plain (OpenSpec.upto pairSidesSpec)) pairSidesUptoCard

/-- THE SECOND FORM's CARD OF 'weirlaw21.PairLoose'. -/
def pairLooseUptoCard : Claim7 := { stood := { row := pairLooseUptoRow, standIns := [], harness := (true, "cbde20c61ce3813a23feec083a5e00d9e8f3e76ff350b6a63cbfac866cd0d443"), looks := false }, kinds := [], alts := [], laidByText := true, laidKinds := [.data, .data, .data], laidTests := true, laidLooks := .later }
def PairLooseUptoCardSaid : Prop := Claim7.holds Tryz.pinned (.plain (OpenSpec.upto pairLooseSpec)) pairLooseUptoCard
end Rows
end Go.Proofs.YtmmfjknnbkcniaaGreatDoor
