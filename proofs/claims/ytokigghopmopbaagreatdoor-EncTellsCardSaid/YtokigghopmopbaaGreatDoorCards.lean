/-
  DERIVED. GIVEN WITH THE SEED: THE CARDS: each row of YtokigghopmopbaaGreatDoorRows.lean that lists a variable, with what it lists TIED to the program's text (the seventh form; the later family's looks); each row that meets fmt, with fmt's text TOLD by the authors' own Lean function (tested against real Go, not proved from fmt's source: count such statements apart). THE CARD IS WHAT COUNTS. Prove the row's statement (the work); the ties are given (YtokigghopmopbaaGreatDoorTie.lean); close each card by the builder's one call (the guide's Derived/Test/ToyasCard.lean, 'card_holds'). Laid BY PROGRAM, IN A SANDBOX (cutbox-door.mjs). By AI agents, Wed Nov 11 2026. No macro, syntax, notation, axiom, sorry.
-/
import Derived.Test.YtokigghopmopbaaGreatDoorRows
import GoSem.ClaimSeven
namespace Go.Proofs.YtokigghopmopbaaGreatDoor
namespace Rows

/-- THE TIED CARD OF 'fencepostlaw12.EncTells'. -/
def encTellsCard : Claim7 := { stood := { row := encTellsRow, standIns := [], harness := (true, "23d890af71241b53923db879706bb118d02884bf53d7ed6f03b1dcc2acc2ecec"), looks := true }, kinds := [], alts := [], laidByText := true, laidKinds := [.data, .data, .data, .sentinel, .sentinel, .sentinel, .sentinel], laidTests := true, laidLooks := .later }
def EncTellsCardSaid : Prop := Claim7.holds Tryz.pinned (.plain (OpenSpec.ofChange encTellsSpec)) encTellsCard

/-- THE SECOND FORM's CARD OF 'fencepostlaw12.EncTells'. -/
def encTellsUptoCard : Claim7 := { stood := { row := encTellsUptoRow, standIns := [], harness := (true, "23d890af71241b53923db879706bb118d02884bf53d7ed6f03b1dcc2acc2ecec"), looks := true }, kinds := [], alts := [], laidByText := true, laidKinds := [.data, .data, .data, .sentinel, .sentinel, .sentinel, .sentinel], laidTests := true, laidLooks := .later }
def EncTellsUptoCardSaid : Prop := Claim7.holds Tryz.pinned (.plain (OpenSpec.upto encTellsSpec)) encTellsUptoCard
end Rows
end Go.Proofs.YtokigghopmopbaaGreatDoor
