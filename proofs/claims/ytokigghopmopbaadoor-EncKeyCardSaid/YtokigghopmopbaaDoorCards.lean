/-
  DERIVED. GIVEN WITH THE SEED: THE CARDS: each row of YtokigghopmopbaaDoorRows.lean that lists a variable, with what it lists TIED to the program's text (the seventh form; the later family's looks); each row that meets fmt, with fmt's text TOLD by the authors' own Lean function (tested against real Go, not proved from fmt's source: count such statements apart). THE CARD IS WHAT COUNTS. Prove the row's statement (the work); the ties are given (YtokigghopmopbaaDoorTie.lean); close each card by the builder's one call (the guide's Derived/Test/ToyasCard.lean, 'card_holds'). Laid BY PROGRAM, IN A SANDBOX (cutbox-door.mjs). By AI agents, Wed Nov 11 2026. No macro, syntax, notation, axiom, sorry.
-/
import Derived.Test.YtokigghopmopbaaDoorRows
import GoSem.ClaimSeven
namespace Go.Proofs.YtokigghopmopbaaDoor
namespace Rows

/-- THE TIED CARD OF 'fencepostlaw12.EncBack'. -/
def encBackCard : Claim7 := { stood := { row := encBackRow, standIns := [], harness := (true, "e7380a57a7a533a4be98f0b624b46fc2731410f6a500e29a48bb061473b3ff72"), looks := true }, kinds := [], alts := [], laidByText := true, laidKinds := [.data, .data, .data, .sentinel, .sentinel, .sentinel, .sentinel], laidTests := true, laidLooks := .later }
def EncBackCardSaid : Prop := Claim7.holds Tryd.pinned (.plain (OpenSpec.ofChange encBackSpec)) encBackCard

/-- THE TIED CARD OF 'fencepostlaw12.EncPrints'. -/
def encPrintsCard : Claim7 := { stood := { row := encPrintsRow, standIns := [], harness := (true, "e7380a57a7a533a4be98f0b624b46fc2731410f6a500e29a48bb061473b3ff72"), looks := true }, kinds := [], alts := [], laidByText := true, laidKinds := [.data, .data, .data, .sentinel, .sentinel, .sentinel, .sentinel], laidTests := true, laidLooks := .later }
def EncPrintsCardSaid : Prop := Claim7.holds Tryd.pinned (.plain (OpenSpec.ofChange encPrintsSpec)) encPrintsCard

/-- THE TIED CARD OF 'fencepostlaw12.EncApart'. -/
def encApartCard : Claim7 := { stood := { row := encApartRow, standIns := [], harness := (true, "e7380a57a7a533a4be98f0b624b46fc2731410f6a500e29a48bb061473b3ff72"), looks := true }, kinds := [], alts := [], laidByText := true, laidKinds := [.data, .data, .data, .sentinel, .sentinel, .sentinel, .sentinel], laidTests := true, laidLooks := .later }
def EncApartCardSaid : Prop := Claim7.holds Tryd.pinned (.plain (OpenSpec.ofChange encApartSpec)) encApartCard

/-- THE TIED CARD OF 'fencepostlaw12.EncCut'. -/
def encCutCard : Claim7 := { stood := { row := encCutRow, standIns := [], harness := (true, "e7380a57a7a533a4be98f0b624b46fc2731410f6a500e29a48bb061473b3ff72"), looks := true }, kinds := [], alts := [], laidByText := true, laidKinds := [.data, .data, .data, .sentinel, .sentinel, .sentinel, .sentinel], laidTests := true, laidLooks := .later }
def EncCutCardSaid : Prop := Claim7.holds Tryd.pinned (.plain (OpenSpec.ofChange encCutSpec)) encCutCard

/-- THE TIED CARD OF 'fencepostlaw12.EncKey'. -/
def encKeyCard : Claim7 := { stood := { row := encKeyRow, standIns := [], harness := (true, "e7380a57a7a533a4be98f0b624b46fc2731410f6a500e29a48bb061473b3ff72"), looks := true }, kinds := [], alts := [], laidByText := true, laidKinds := [.data, .data, .data, .sentinel, .sentinel, .sentinel, .sentinel], laidTests := true, laidLooks := .later }
def EncKeyCardSaid : Prop := Claim7.holds Tryd.pinned (.plain (OpenSpec.ofChange encKeySpec)) encKeyCard

/-- THE SECOND FORM's CARD OF 'fencepostlaw12.EncBack'. -/
def encBackUptoCard : Claim7 := { stood := { row := encBackUptoRow, standIns := [], harness := (true, "e7380a57a7a533a4be98f0b624b46fc2731410f6a500e29a48bb061473b3ff72"), looks := true }, kinds := [], alts := [], laidByText := true, laidKinds := [.data, .data, .data, .sentinel, .sentinel, .sentinel, .sentinel], laidTests := true, laidLooks := .later }
def EncBackUptoCardSaid : Prop := Claim7.holds Tryd.pinned (.plain (OpenSpec.upto encBackSpec)) encBackUptoCard

/-- THE SECOND FORM's CARD OF 'fencepostlaw12.EncPrints'. -/
def encPrintsUptoCard : Claim7 := { stood := { row := encPrintsUptoRow, standIns := [], harness := (true, "e7380a57a7a533a4be98f0b624b46fc2731410f6a500e29a48bb061473b3ff72"), looks := true }, kinds := [], alts := [], laidByText := true, laidKinds := [.data, .data, .data, .sentinel, .sentinel, .sentinel, .sentinel], laidTests := true, laidLooks := .later }
def EncPrintsUptoCardSaid : Prop := Claim7.holds Tryd.pinned (.plain (OpenSpec.upto encPrintsSpec)) encPrintsUptoCard

/-- THE SECOND FORM's CARD OF 'fencepostlaw12.EncApart'. -/
def encApartUptoCard : Claim7 := { stood := { row := encApartUptoRow, standIns := [], harness := (true, "e7380a57a7a533a4be98f0b624b46fc2731410f6a500e29a48bb061473b3ff72"), looks := true }, kinds := [], alts := [], laidByText := true, laidKinds := [.data, .data, .data, .sentinel, .sentinel, .sentinel, .sentinel], laidTests := true, laidLooks := .later }
def EncApartUptoCardSaid : Prop := Claim7.holds Tryd.pinned (.plain (OpenSpec.upto encApartSpec)) encApartUptoCard

/-- THE SECOND FORM's CARD OF 'fencepostlaw12.EncCut'. -/
def encCutUptoCard : Claim7 := { stood := { row := encCutUptoRow, standIns := [], harness := (true, "e7380a57a7a533a4be98f0b624b46fc2731410f6a500e29a48bb061473b3ff72"), looks := true }, kinds := [], alts := [], laidByText := true, laidKinds := [.data, .data, .data, .sentinel, .sentinel, .sentinel, .sentinel], laidTests := true, laidLooks := .later }
def EncCutUptoCardSaid : Prop := Claim7.holds Tryd.pinned (.plain (OpenSpec.upto encCutSpec)) encCutUptoCard

/-- THE SECOND FORM's CARD OF 'fencepostlaw12.EncKey'. -/
def encKeyUptoCard : Claim7 := { stood := { row := encKeyUptoRow, standIns := [], harness := (true, "e7380a57a7a533a4be98f0b624b46fc2731410f6a500e29a48bb061473b3ff72"), looks := true }, kinds := [], alts := [], laidByText := true, laidKinds := [.data, .data, .data, .sentinel, .sentinel, .sentinel, .sentinel], laidTests := true, laidLooks := .later }
def EncKeyUptoCardSaid : Prop := Claim7.holds Tryd.pinned (.plain (OpenSpec.upto encKeySpec)) encKeyUptoCard
end Rows
end Go.Proofs.YtokigghopmopbaaDoor
