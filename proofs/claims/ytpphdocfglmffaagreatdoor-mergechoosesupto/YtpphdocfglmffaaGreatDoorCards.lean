/-
  DERIVED. GIVEN WITH THE SEED: THE CARDS: each row of YtpphdocfglmffaaGreatDoorRows.lean that lists a variable, with what it lists TIED to the program's text (the seventh form; the later family's looks); each row that meets fmt, with fmt's text TOLD by the authors' own Lean function (tested against real Go, not proved from fmt's source: count such statements apart). THE CARD IS WHAT COUNTS. Prove the row's statement (the work); the ties are given (YtpphdocfglmffaaGreatDoorTie.lean); close each card by the builder's one call (the guide's Derived/Test/ToyasCard.lean, 'card_holds'). Laid BY PROGRAM, IN A SANDBOX (cutbox-door.mjs). By AI agents, Wed Nov 11 2026. No macro, syntax, notation, axiom, sorry.
-/
import Derived.Test.YtpphdocfglmffaaGreatDoorRows
import GoSem.ClaimSeven
namespace Go.Proofs.YtpphdocfglmffaaGreatDoor
namespace Rows

/-- THE TIED CARD OF 'stoalaw24.MergeChooses'. -/
def mergeChoosesCard : Claim7 := { stood := { row := mergeChoosesRow, standIns := [], harness := (true, "8fb242c82dfe79a3ad8cb575fea2a595d31e6c0f6c48427d5b92e6b8e485b925"), looks := false }, kinds := [], alts := [], laidByText := true, laidKinds := [.data, .pinned], laidTests := true, laidLooks := .later }
def MergeChoosesCardSaid : Prop := Claim7.holds Tryz.pinned (.plain (OpenSpec.ofChange mergeChoosesSpec)) mergeChoosesCard

/-- THE SECOND FORM's CARD OF 'stoalaw24.MergeChooses'. -/
def mergeChoosesUptoCard : Claim7 := { stood := { row := mergeChoosesUptoRow, standIns := [], harness := (true, "8fb242c82dfe79a3ad8cb575fea2a595d31e6c0f6c48427d5b92e6b8e485b925"), looks := false }, kinds := [], alts := [], laidByText := true, laidKinds := [.data, .pinned], laidTests := true, laidLooks := .later }
def MergeChoosesUptoCardSaid : Prop := Claim7.holds Tryz.pinned (.plain (OpenSpec.upto mergeChoosesSpec)) mergeChoosesUptoCard
end Rows
end Go.Proofs.YtpphdocfglmffaaGreatDoor
