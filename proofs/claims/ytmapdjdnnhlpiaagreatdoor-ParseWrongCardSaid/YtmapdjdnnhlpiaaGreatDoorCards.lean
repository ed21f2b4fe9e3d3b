/-
  DERIVED. GIVEN WITH THE SEED: THE CARDS: each row of YtmapdjdnnhlpiaaGreatDoorRows.lean that lists a variable, with what it lists TIED to the program's text (the seventh form; the later family's looks); each row that meets fmt, with fmt's text TOLD by the authors' own Lean function (tested against real Go, not proved from fmt's source: count such statements apart). THE CARD IS WHAT COUNTS. Prove the row's statement (the work); the ties are given (YtmapdjdnnhlpiaaGreatDoorTie.lean); close each card by the builder's one call (the guide's Derived/Test/ToyasCard.lean, 'card_holds'). Laid BY PROGRAM, IN A SANDBOX (cutbox-door.mjs). By AI agents, Wed Nov 11 2026. No macro, syntax, notation, axiom, sorry.
-/
import Derived.Test.YtmapdjdnnhlpiaaGreatDoorRows
import GoSem.ClaimSeven
namespace Go.Proofs.YtmapdjdnnhlpiaaGreatDoor
namespace Rows

/-- THE TIED CARD OF 'fencepostlaw05.ParseTells'. -/
def parseTellsCard : Claim7 := { stood := { row := parseTellsRow, standIns := [], harness := (true, "5b6d6e8f791f2c7e35b69d3debab49f1ecaea8dc69bf747f340ca83e6ad222e0"), looks := true }, kinds := [], alts := [], laidByText := true, laidKinds := [.data, .data, .data, .handle, .sentinel, .sentinel], laidTests := true, laidLooks := .later }
def ParseTellsCardSaid : Prop := Claim7.holds Tryz.pinned (.plain (OpenSpec.ofChange parseTellsSpec)) parseTellsCard

/-- THE TIED CARD OF 'fencepostlaw05.ParseRight'. -/
def parseRightCard : Claim7 := { stood := { row := parseRightRow, standIns := [], harness := (true, "5b6d6e8f791f2c7e35b69d3debab49f1ecaea8dc69bf747f340ca83e6ad222e0"), looks := true }, kinds := [], alts := [], laidByText := true, laidKinds := [.data, .data, .data, .handle, .sentinel, .sentinel], laidTests := true, laidLooks := .later }
def ParseRightCardSaid : Prop := Claim7.holds Tryz.pinned (.plain (OpenSpec.ofChange parseRightSpec)) parseRightCard

/-- THE TIED CARD OF 'fencepostlaw05.ParseWhere'. -/
def parseWhereCard : Claim7 := { stood := { row := parseWhereRow, standIns := [], harness := (true, "5b6d6e8f791f2c7e35b69d3debab49f1ecaea8dc69bf747f340ca83e6ad222e0"), looks := true }, kinds := [], alts := [], laidByText := true, laidKinds := [.data, .data, .data, .handle, .sentinel, .sentinel], laidTests := true, laidLooks := .later }
def ParseWhereCardSaid : Prop := Claim7.holds Tryz.pinned (.plain (OpenSpec.ofChange parseWhereSpec)) parseWhereCard

/-- THE TIED CARD OF 'fencepostlaw05.ParseBlanks'. -/
def parseBlanksCard : Claim7 := { stood := { row := parseBlanksRow, standIns := [], harness := (true, "5b6d6e8f791f2c7e35b69d3debab49f1ecaea8dc69bf747f340ca83e6ad222e0"), looks := true }, kinds := [], alts := [], laidByText := true, laidKinds := [.data, .data, .data, .handle, .sentinel, .sentinel], laidTests := true, laidLooks := .later }
def ParseBlanksCardSaid : Prop := Claim7.holds Tryz.pinned (.plain (OpenSpec.ofChange parseBlanksSpec)) parseBlanksCard

/-- THE TIED CARD OF 'fencepostlaw05.ParsePlain'. -/
def parsePlainCard : Claim7 := { stood := { row := parsePlainRow, standIns := [], harness := (true, "5b6d6e8f791f2c7e35b69d3debab49f1ecaea8dc69bf747f340ca83e6ad222e0"), looks := true }, kinds := [], alts := [], laidByText := true, laidKinds := [.data, .data, .data, .handle, .sentinel, .sentinel], laidTests := true, laidLooks := .later }
def ParsePlainCardSaid : Prop := Claim7.holds Tryz.pinned (.plain (OpenSpec.ofChange parsePlainSpec)) parsePlainCard

/-- THE TIED CARD OF 'fencepostlaw05.ParseWrong'. -/
def parseWrongCard : Claim7 := { stood := { row := parseWrongRow, standIns := [], harness := (true, "5b6d6e8f791f2c7e35b69d3debab49f1ecaea8dc69bf747f340ca83e6ad222e0"), looks := true }, kinds := [], alts := [], laidByText := true, laidKinds := [.data, .data, .data, .handle, .sentinel, .sentinel], laidTests := true, laidLooks := .later }
def ParseWrongCardSaid : Prop := Claim7.holds Tryz.pinned (.plain (OpenSpec.ofChange parseWrongSpec)) parseWrongCard

/-- THE SECOND FORM's CARD OF 'fencepostlaw05.ParseTells'. -/
def parseTellsUptoCard : Claim7 := { stood := { row := parseTellsUptoRow, standIns := [], harness := (true, "5b6d6e8f791f2c7e35b69d3debab49f1ecaea8dc69bf747f340ca83e6ad222e0"), looks := true }, kinds := [], alts := [], laidByText := true, laidKinds := [.data, .data, .data, .handle, .sentinel, .sentinel], laidTests := true, laidLooks := .later }
def ParseTellsUptoCardSaid : Prop := Claim7.holds Tryz.pinned (.plain (OpenSpec.upto parseTellsSpec)) parseTellsUptoCard

/-- THE SECOND FORM's CARD OF 'fencepostlaw05.ParseRight'. -/
def parseRightUptoCard : Claim7 := { stood := { row := parseRightUptoRow, standIns := [], harness := (true, "5b6d6e8f791f2c7e35b69d3debab49f1ecaea8dc69bf747f340ca83e6ad222e0"), looks := true }, kinds := [], alts := [], laidByText := true, laidKinds := [.data, .data, .data, .handle, .sentinel, .sentinel], laidTests := true, laidLooks := .later }
def ParseRightUptoCardSaid : Prop := Claim7.holds Tryz.pinned (.plain (OpenSpec.upto parseRightSpec)) parseRightUptoCard

/-- THE SECOND FORM's CARD OF 'fencepostlaw05.ParseWhere'. -/
def parseWhereUptoCard : Claim7 := { stood := { row := parseWhereUptoRow, standIns := [], harness := (true, "5b6d6e8f791f2c7e35b69d3debab49f1ecaea8dc69bf747f340ca83e6ad222e0"), looks := true }, kinds := [], alts := [], laidByText := true, laidKinds := [.data, .data, .data, .handle, .sentinel, .sentinel], laidTests := true, laidLooks := .later }
def ParseWhereUptoCardSaid : Prop := Claim7.holds Tryz.pinned (.plain (OpenSpec.upto parseWhereSpec)) parseWhereUptoCard

/-- THE SECOND FORM's CARD OF 'fencepostlaw05.ParseBlanks'. -/
def parseBlanksUptoCard : Claim7 := { stood := { row := parseBlanksUptoRow, standIns := [], harness := (true, "5b6d6e8f791f2c7e35b69d3debab49f1ecaea8dc69bf747f340ca83e6ad222e0"), looks := true }, kinds := [], alts := [], laidByText := true, laidKinds := [.data, .data, .data, .handle, .sentinel, .sentinel], laidTests := true, laidLooks := .later }
def ParseBlanksUptoCardSaid : Prop := Claim7.holds Tryz.pinned (.plain (OpenSpec.upto parseBlanksSpec)) parseBlanksUptoCard

/-- THE SECOND FORM's CARD OF 'fencepostlaw05.ParsePlain'. -/
def parsePlainUptoCard : Claim7 := { stood := { row := parsePlainUptoRow, standIns := [], harness := (true, "5b6d6e8f791f2c7e35b69d3debab49f1ecaea8dc69bf747f340ca83e6ad222e0"), looks := true }, kinds := [], alts := [], laidByText := true, laidKinds := [.data, .data, .data, .handle, .sentinel, .sentinel], laidTests := true, laidLooks := .later }
def ParsePlainUptoCardSaid : Prop := Claim7.holds Tryz.pinned (.plain (OpenSpec.upto parsePlainSpec)) parsePlainUptoCard

/-- THE SECOND FORM's CARD OF 'fencepostlaw05.ParseWrong'. -/
def parseWrongUptoCard : Claim7 := { stood := { row := parseWrongUptoRow, standIns := [], harness := (true, "5b6d6e8f791f2c7e35b69d3debab49f1ecaea8dc69bf747f340ca83e6ad222e0"), looks := true }, kinds := [], alts := [], laidByText := true, laidKinds := [.data, .data, .data, .handle, .sentinel, .sentinel], laidTests := true, laidLooks := .later }
def ParseWrongUptoCardSaid : Prop := Claim7.holds Tryz.pinned (.plain (OpenSpec.upto parseWrongSpec)) parseWrongUptoCard
end Rows
end Go.Proofs.YtmapdjdnnhlpiaaGreatDoor
