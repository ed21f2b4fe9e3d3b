/-
  DERIVED. GIVEN WITH THE SEED: THE CARDS: each row of YtcpefnjofekibaaDoorRows.lean that lists a variable, with what it lists TIED to the program's text (the seventh form; the later family's looks); each row that meets fmt, with fmt's text TOLD by the authors' own Lean function (tested against real Go, not proved from fmt's source: count such statements apart). THE CARD IS WHAT COUNTS. Prove the row's statement (the work); the ties are given (YtcpefnjofekibaaDoorTie.lean); close each card by the builder's one call (the guide's Derived/Test/ToyasCard.lean, 'card_holds'). Laid BY PROGRAM, IN A SANDBOX (cutbox-door.mjs). By AI agents, Wed Nov 11 2026. No macro, syntax, notation, axiom, sorry.
-/
import Derived.Test.YtcpefnjofekibaaDoorRows
import GoSem.ClaimSeven
namespace Go.Proofs.YtcpefnjofekibaaDoor
namespace Rows

/-- THE TIED CARD OF 'fencepostlaw03.OpsTells'. -/
def opsTellsCard : Claim7 := { stood := { row := opsTellsRow, standIns := [], harness := (true, "c10108d6a85f1604184aa49f1b2647c7e9b82bbc9047a36d8c07994c4f03470d"), looks := true }, kinds := [], alts := [], laidByText := true, laidKinds := [.data, .data, .data, .sentinel, .sentinel], laidTests := true, laidLooks := .later }
def OpsTellsCardSaid : Prop := Claim7.holds Tryd.pinned (.plain (OpenSpec.ofChange opsTellsSpec)) opsTellsCard

/-- THE TIED CARD OF 'fencepostlaw03.OpsBack'. -/
def opsBackCard : Claim7 := { stood := { row := opsBackRow, standIns := [], harness := (true, "c10108d6a85f1604184aa49f1b2647c7e9b82bbc9047a36d8c07994c4f03470d"), looks := true }, kinds := [], alts := [], laidByText := true, laidKinds := [.data, .data, .data, .sentinel, .sentinel], laidTests := true, laidLooks := .later }
def OpsBackCardSaid : Prop := Claim7.holds Tryd.pinned (.plain (OpenSpec.ofChange opsBackSpec)) opsBackCard

/-- THE TIED CARD OF 'fencepostlaw03.OpsAtom'. -/
def opsAtomCard : Claim7 := { stood := { row := opsAtomRow, standIns := [], harness := (true, "c10108d6a85f1604184aa49f1b2647c7e9b82bbc9047a36d8c07994c4f03470d"), looks := true }, kinds := [], alts := [], laidByText := true, laidKinds := [.data, .data, .data, .sentinel, .sentinel], laidTests := true, laidLooks := .later }
def OpsAtomCardSaid : Prop := Claim7.holds Tryd.pinned (.plain (OpenSpec.ofChange opsAtomSpec)) opsAtomCard

/-- THE TIED CARD OF 'fencepostlaw03.OpsApart'. -/
def opsApartCard : Claim7 := { stood := { row := opsApartRow, standIns := [], harness := (true, "c10108d6a85f1604184aa49f1b2647c7e9b82bbc9047a36d8c07994c4f03470d"), looks := true }, kinds := [], alts := [], laidByText := true, laidKinds := [.data, .data, .data, .sentinel, .sentinel], laidTests := true, laidLooks := .later }
def OpsApartCardSaid : Prop := Claim7.holds Tryd.pinned (.plain (OpenSpec.ofChange opsApartSpec)) opsApartCard

/-- THE TIED CARD OF 'fencepostlaw03.OpsZero'. -/
def opsZeroCard : Claim7 := { stood := { row := opsZeroRow, standIns := [], harness := (true, "c10108d6a85f1604184aa49f1b2647c7e9b82bbc9047a36d8c07994c4f03470d"), looks := true }, kinds := [], alts := [], laidByText := true, laidKinds := [.data, .data, .data, .sentinel, .sentinel], laidTests := true, laidLooks := .later }
def OpsZeroCardSaid : Prop := Claim7.holds Tryd.pinned (.plain (OpenSpec.ofChange opsZeroSpec)) opsZeroCard

/-- THE TIED CARD OF 'fencepostlaw03.OpsWords'. -/
def opsWordsCard : Claim7 := { stood := { row := opsWordsRow, standIns := [], harness := (true, "c10108d6a85f1604184aa49f1b2647c7e9b82bbc9047a36d8c07994c4f03470d"), looks := true }, kinds := [], alts := [], laidByText := true, laidKinds := [.data, .data, .data, .sentinel, .sentinel], laidTests := true, laidLooks := .later }
def OpsWordsCardSaid : Prop := Claim7.holds Tryd.pinned (.plain (OpenSpec.ofChange opsWordsSpec)) opsWordsCard

/-- THE SECOND FORM's CARD OF 'fencepostlaw03.OpsTells'. -/
def opsTellsUptoCard : Claim7 := { stood := { row := opsTellsUptoRow, standIns := [], harness := (true, "c10108d6a85f1604184aa49f1b2647c7e9b82bbc9047a36d8c07994c4f03470d"), looks := true }, kinds := [], alts := [], laidByText := true, laidKinds := [.data, .data, .data, .sentinel, .sentinel], laidTests := true, laidLooks := .later }
def OpsTellsUptoCardSaid : Prop := Claim7.holds Tryd.pinned (.plain (OpenSpec.upto opsTellsSpec)) opsTellsUptoCard

/-- THE SECOND FORM's CARD OF 'fencepostlaw03.OpsBack'. -/
def opsBackUptoCard : Claim7 := { stood := { row := opsBackUptoRow, standIns := [], harness := (true, "c10108d6a85f1604184aa49f1b2647c7e9b82bbc9047a36d8c07994c4f03470d"), looks := true }, kinds := [], alts := [], laidByText := true, laidKinds := [.data, .data, .data, .sentinel, .sentinel], laidTests := true, laidLooks := .later }
def OpsBackUptoCardSaid : Prop := Claim7.holds Tryd.pinned (.plain (OpenSpec.upto opsBackSpec)) opsBackUptoCard

/-- THE SECOND FORM's CARD OF 'fencepostlaw03.OpsAtom'. -/
def opsAtomUptoCard : Claim7 := { stood := { row := opsAtomUptoRow, standIns := [], harness := (true, "c10108d6a85f1604184aa49f1b2647c7e9b82bbc9047a36d8c07994c4f03470d"), looks := true }, kinds := [], alts := [], laidByText := true, laidKinds := [.data, .data, .data, .sentinel, .sentinel], laidTests := true, laidLooks := .later }
def OpsAtomUptoCardSaid : Prop := Claim7.holds Tryd.pinned (.plain (OpenSpec.upto opsAtomSpec)) opsAtomUptoCard

/-- THE SECOND FORM's CARD OF 'fencepostlaw03.OpsApart'. -/
def opsApartUptoCard : Claim7 := { stood := { row := opsApartUptoRow, standIns := [], harness := (true, "c10108d6a85f1604184aa49f1b2647c7e9b82bbc9047a36d8c07994c4f03470d"), looks := true }, kinds := [], alts := [], laidByText := true, laidKinds := [.data, .data, .data, .sentinel, .sentinel], laidTests := true, laidLooks := .later }
def OpsApartUptoCardSaid : Prop := Claim7.holds Tryd.pinned (.plain (OpenSpec.upto opsApartSpec)) opsApartUptoCard

/-- THE SECOND FORM's CARD OF 'fencepostlaw03.OpsZero'. -/
def opsZeroUptoCard : Claim7 := { stood := { row := opsZeroUptoRow, standIns := [], harness := (true, "c10108d6a85f1604184aa49f1b2647c7e9b82bbc9047a36d8c07994c4f03470d"), looks := true }, kinds := [], alts := [], laidByText := true, laidKinds := [.data, .data, .data, .sentinel, .sentinel], laidTests := true, laidLooks := .later }
def OpsZeroUptoCardSaid : Prop := Claim7.holds Tryd.pinned (.plain (OpenSpec.upto opsZeroSpec)) opsZeroUptoCard

/-- THE SECOND FORM's CARD OF 'fencepostlaw03.OpsWords'. -/
def opsWordsUptoCard : Claim7 := { stood := { row := opsWordsUptoRow, standIns := [], harness := (true, "c10108d6a85f1604184aa49f1b2647c7e9b82bbc9047a36d8c07994c4f03470d"), looks := true }, kinds := [], alts := [], laidByText := true, laidKinds := [.data, .data, .data, .sentinel, .sentinel], laidTests := true, laidLooks := .later }
def OpsWordsUptoCardSaid : Prop := Claim7.holds Tryd.pinned (.plain (OpenSpec.upto opsWordsSpec)) opsWordsUptoCard
end Rows
end Go.Proofs.YtcpefnjofekibaaDoor
