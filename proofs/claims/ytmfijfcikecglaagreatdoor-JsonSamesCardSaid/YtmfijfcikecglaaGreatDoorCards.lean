/-
  DERIVED. GIVEN WITH THE SEED: THE CARDS: each row of YtmfijfcikecglaaGreatDoorRows.lean that lists a variable, with what it lists TIED to the program's text (the seventh form; the later family's looks); each row that meets fmt, with fmt's text TOLD by the authors' own Lean function (tested against real Go, not proved from fmt's source: count such statements apart). THE CARD IS WHAT COUNTS. Prove the row's statement (the work); the ties are given (YtmfijfcikecglaaGreatDoorTie.lean); close each card by the builder's one call (the guide's Derived/Test/ToyasCard.lean, 'card_holds'). Laid BY PROGRAM, IN A SANDBOX (cutbox-door.mjs). By AI agents, Wed Nov 11 2026. No macro, syntax, notation, axiom, sorry.
-/
import Derived.Test.YtmfijfcikecglaaGreatDoorRows
import GoSem.ClaimSeven
namespace Go.Proofs.YtmfijfcikecglaaGreatDoor
namespace Rows

/-- THE TIED CARD OF 'voyagelaw02.JsonPrints'. -/
def jsonPrintsCard : Claim7 := { stood := { row := jsonPrintsRow, standIns := [], harness := (true, "d7d703f5d0ddb2345b504b45c958240680c8b5a93406af724bf91c38c921fd9d"), looks := true }, kinds := [], alts := [], laidByText := true, laidKinds := [.data, .data, .data, .data, .handle, .sentinel, .sentinel, .sentinel, .sentinel, .sentinel, .sentinel, .sentinel, .sentinel, .sentinel, .pinned], laidTests := true, laidLooks := .later }
def JsonPrintsCardSaid : Prop := Claim7.holds Tryz.pinned (.plain (OpenSpec.ofChange jsonPrintsSpec)) jsonPrintsCard

/-- THE TIED CARD OF 'voyagelaw02.JsonNorms'. -/
def jsonNormsCard : Claim7 := { stood := { row := jsonNormsRow, standIns := [], harness := (true, "d7d703f5d0ddb2345b504b45c958240680c8b5a93406af724bf91c38c921fd9d"), looks := true }, kinds := [], alts := [], laidByText := true, laidKinds := [.data, .data, .data, .data, .handle, .sentinel, .sentinel, .sentinel, .sentinel, .sentinel, .sentinel, .sentinel, .sentinel, .sentinel, .pinned], laidTests := true, laidLooks := .later }
def JsonNormsCardSaid : Prop := Claim7.holds Tryz.pinned (.plain (OpenSpec.ofChange jsonNormsSpec)) jsonNormsCard

/-- THE TIED CARD OF 'voyagelaw02.JsonSames'. -/
def jsonSamesCard : Claim7 := { stood := { row := jsonSamesRow, standIns := [], harness := (true, "d7d703f5d0ddb2345b504b45c958240680c8b5a93406af724bf91c38c921fd9d"), looks := true }, kinds := [], alts := [], laidByText := true, laidKinds := [.data, .data, .data, .data, .handle, .sentinel, .sentinel, .sentinel, .sentinel, .sentinel, .sentinel, .sentinel, .sentinel, .sentinel, .pinned], laidTests := true, laidLooks := .later }
def JsonSamesCardSaid : Prop := Claim7.holds Tryz.pinned (.plain (OpenSpec.ofChange jsonSamesSpec)) jsonSamesCard

/-- THE TIED CARD OF 'voyagelaw02.JsonBack'. -/
def jsonBackCard : Claim7 := { stood := { row := jsonBackRow, standIns := [], harness := (true, "d7d703f5d0ddb2345b504b45c958240680c8b5a93406af724bf91c38c921fd9d"), looks := true }, kinds := [], alts := [], laidByText := true, laidKinds := [.data, .data, .data, .data, .handle, .sentinel, .sentinel, .sentinel, .sentinel, .sentinel, .sentinel, .sentinel, .sentinel, .sentinel, .pinned], laidTests := true, laidLooks := .later }
def JsonBackCardSaid : Prop := Claim7.holds Tryz.pinned (.plain (OpenSpec.ofChange jsonBackSpec)) jsonBackCard

/-- THE TIED CARD OF 'voyagelaw02.JsonTexts'. -/
def jsonTextsCard : Claim7 := { stood := { row := jsonTextsRow, standIns := [], harness := (true, "d7d703f5d0ddb2345b504b45c958240680c8b5a93406af724bf91c38c921fd9d"), looks := true }, kinds := [], alts := [], laidByText := true, laidKinds := [.data, .data, .data, .data, .handle, .sentinel, .sentinel, .sentinel, .sentinel, .sentinel, .sentinel, .sentinel, .sentinel, .sentinel, .pinned], laidTests := true, laidLooks := .later }
def JsonTextsCardSaid : Prop := Claim7.holds Tryz.pinned (.plain (OpenSpec.ofChange jsonTextsSpec)) jsonTextsCard

/-- THE TIED CARD OF 'voyagelaw02.JsonGaps'. -/
def jsonGapsCard : Claim7 := { stood := { row := jsonGapsRow, standIns := [], harness := (true, "d7d703f5d0ddb2345b504b45c958240680c8b5a93406af724bf91c38c921fd9d"), looks := true }, kinds := [], alts := [], laidByText := true, laidKinds := [.data, .data, .data, .data, .handle, .sentinel, .sentinel, .sentinel, .sentinel, .sentinel, .sentinel, .sentinel, .sentinel, .sentinel, .pinned], laidTests := true, laidLooks := .later }
def JsonGapsCardSaid : Prop := Claim7.holds Tryz.pinned (.plain (OpenSpec.ofChange jsonGapsSpec)) jsonGapsCard

/-- THE SECOND FORM's CARD OF 'voyagelaw02.JsonPrints'. -/
def jsonPrintsUptoCard : Claim7 := { stood := { row := jsonPrintsUptoRow, standIns := [], harness := (true, "d7d703f5d0ddb2345b504b45c958240680c8b5a93406af724bf91c38c921fd9d"), looks := true }, kinds := [], alts := [], laidByText := true, laidKinds := [.data, .data, .data, .data, .handle, .sentinel, .sentinel, .sentinel, .sentinel, .sentinel, .sentinel, .sentinel, .sentinel, .sentinel, .pinned], laidTests := true, laidLooks := .later }
def JsonPrintsUptoCardSaid : Prop := Claim7.holds Tryz.pinned (.plain (OpenSpec.upto jsonPrintsSpec)) jsonPrintsUptoCard

/-- THE SECOND FORM's CARD OF 'voyagelaw02.JsonNorms'. -/
def jsonNormsUptoCard : Claim7 := { stood := { row := jsonNormsUptoRow, standIns := [], harness := (true, "d7d703f5d0ddb2345b504b45c958240680c8b5a93406af724bf91c38c921fd9d"), looks := true }, kinds := [], alts := [], laidByText := true, laidKinds := [.data, .data, .data, .data, .handle, .sentinel, .sentinel, .sentinel, .sentinel, .sentinel, .sentinel, .sentinel, .sentinel, .sentinel, .pinned], laidTests := true, laidLooks := .later }
def JsonNormsUptoCardSaid : Prop := Claim7.holds Tryz.pinned (.plain (OpenSpec.upto jsonNormsSpec)) jsonNormsUptoCard

/-- THE SECOND FORM's CARD OF 'voyagelaw02.JsonSames'. -/
def jsonSamesUptoCard : Claim7 := { stood := { row := jsonSamesUptoRow, standIns := [], harness := (true, "d7d703f5d0ddb2345b504b45c958240680c8b5a93406af724bf91c38c921fd9d"), looks := true }, kinds := [], alts := [], laidByText := true, laidKinds := [.data, .data, .data, .data, .handle, .sentinel, .sentinel, .sentinel, .sentinel, .sentinel, .sentinel, .sentinel, .sentinel, .sentinel, .pinned], laidTests := true, laidLooks := .later }
def JsonSamesUptoCardSaid : Prop := Claim7.holds Tryz.pinned (.plain (OpenSpec.upto jsonSamesSpec)) jsonSamesUptoCard

/-- THE SECOND FORM's CARD OF 'voyagelaw02.JsonBack'. -/
def jsonBackUptoCard : Claim7 := { stood := { row := jsonBackUptoRow, standIns := [], harness := (true, "d7d703f5d0ddb2345b504b45c958240680c8b5a93406af724bf91c38c921fd9d"), looks := true }, kinds := [], alts := [], laidByText := true, laidKinds := [.data, .data, .data, .data, .handle, .sentinel, .sentinel, .sentinel, .sentinel, .sentinel, .sentinel, .sentinel, .sentinel, .sentinel, .pinned], laidTests := true, laidLooks := .later }
def JsonBackUptoCardSaid : Prop := Claim7.holds Tryz.pinned (.plain (OpenSpec.upto jsonBackSpec)) jsonBackUptoCard

/-- THE SECOND FORM's CARD OF 'voyagelaw02.JsonTexts'. -/
def jsonTextsUptoCard : Claim7 := { stood := { row := jsonTextsUptoRow, standIns := [], harness := (true, "d7d703f5d0ddb2345b504b45c958240680c8b5a93406af724bf91c38c921fd9d"), looks := true }, kinds := [], alts := [], laidByText := true, laidKinds := [.data, .data, .data, .data, .handle, .sentinel, .sentinel, .sentinel, .sentinel, .sentinel, .sentinel, .sentinel, .sentinel, .sentinel, .pinned], laidTests := true, laidLooks := .later }
def JsonTextsUptoCardSaid : Prop := Claim7.holds Tryz.pinned (.plain (OpenSpec.upto jsonTextsSpec)) jsonTextsUptoCard

/-- THE SECOND FORM's CARD OF 'voyagelaw02.JsonGaps'. -/
def jsonGapsUptoCard : Claim7 := { stood := { row := jsonGapsUptoRow, standIns := [], harness := (true, "d7d703f5d0ddb2345b504b45c958240680c8b5a93406af724bf91c38c921fd9d"), looks := true }, kinds := [], alts := [], laidByText := true, laidKinds := [.data, .data, .data, .data, .handle, .sentinel, .sentinel, .sentinel, .sentinel, .sentinel, .sentinel, .sentinel, .sentinel, .sentinel, .pinned], laidTests := true, laidLooks := .later }
def JsonGapsUptoCardSaid : Prop := Claim7.holds Tryz.pinned (.plain (OpenSpec.upto jsonGapsSpec)) jsonGapsUptoCard
end Rows
end Go.Proofs.YtmfijfcikecglaaGreatDoor
