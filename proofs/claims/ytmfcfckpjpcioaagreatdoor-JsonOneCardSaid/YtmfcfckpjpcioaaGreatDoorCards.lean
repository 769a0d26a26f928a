/-
  DERIVED. GIVEN WITH THE SEED: THE CARDS: each row of YtmfcfckpjpcioaaGreatDoorRows.lean that lists a variable, with what it lists TIED to the program's text (the seventh form; the later family's looks); each row that meets fmt, with fmt's text TOLD by the authors' own Lean function (tested against real Go, not proved from fmt's source: count such statements apart). THE CARD IS WHAT COUNTS. Prove the row's statement (the work); the ties are given (YtmfcfckpjpcioaaGreatDoorTie.lean); close each card by the builder's one call (the guide's Derived/Test/ToyasCard.lean, 'card_holds'). Laid BY PROGRAM, IN A SANDBOX (cutbox-door.mjs). By AI agents, Wed Nov 11 2026. No macro, syntax, notation, axiom, sorry.
-/
import Derived.Test.YtmfcfckpjpcioaaGreatDoorRows
import GoSem.ClaimSeven
namespace Go.Proofs.YtmfcfckpjpcioaaGreatDoor
namespace Rows

/-- THE TIED CARD OF 'voyagelaw02.JsonSames'. -/
def jsonSamesCard : Claim7 := { stood := { row := jsonSamesRow, standIns := [], harness := (true, "dbb29928b541063632f0ffa81b42befdf84aa3b7fdbfa94dd8d0a05c1831150f"), looks := true }, kinds := [], alts := [], laidByText := true, laidKinds := [.data, .data, .data, .data, .handle, .sentinel, .sentinel, .sentinel, .sentinel, .sentinel, .sentinel, .sentinel, .sentinel, .sentinel, .pinned], laidTests := true, laidLooks := .later }
def JsonSamesCardSaid : Prop := Claim7.holds Tryz.pinned (.plain (OpenSpec.ofChange jsonSamesSpec)) jsonSamesCard

/-- THE TIED CARD OF 'voyagelaw02.JsonOne'. -/
def jsonOneCard : Claim7 := { stood := { row := jsonOneRow, standIns := [], harness := (true, "dbb29928b541063632f0ffa81b42befdf84aa3b7fdbfa94dd8d0a05c1831150f"), looks := true }, kinds := [], alts := [], laidByText := true, laidKinds := [.data, .data, .data, .data, .handle, .sentinel, .sentinel, .sentinel, .sentinel, .sentinel, .sentinel, .sentinel, .sentinel, .sentinel, .pinned], laidTests := true, laidLooks := .later }
def JsonOneCardSaid : Prop := Claim7.holds Tryz.pinned (.plain (OpenSpec.ofChange jsonOneSpec)) jsonOneCard

/-- THE SECOND FORM's CARD OF 'voyagelaw02.JsonSames'. -/
def jsonSamesUptoCard : Claim7 := { stood := { row := jsonSamesUptoRow, standIns := [], harness := (true, "dbb29928b541063632f0ffa81b42befdf84aa3b7fdbfa94dd8d0a05c1831150f"), looks := true }, kinds := [], alts := [], laidByText := true, laidKinds := [.data, .data, .data, .data, .handle, .sentinel, .sentinel, .sentinel, .sentinel, .sentinel, .sentinel, .sentinel, .sentinel, .sentinel, .pinned], laidTests := true, laidLooks := .later }
def JsonSamesUptoCardSaid : Prop := Claim7.holds Tryz.pinned (.plain (OpenSpec.upto jsonSamesSpec)) jsonSamesUptoCard

/-- THE SECOND FORM's CARD OF 'voyagelaw02.JsonOne'. -/
def jsonOneUptoCard : Claim7 := { stood := { row := jsonOneUptoRow, standIns := [], harness := (true, "dbb29928b541063632f0ffa81b42befdf84aa3b7fdbfa94dd8d0a05c1831150f"), looks := true }, kinds := [], alts := [], laidByText := true, laidKinds := [.data, .data, .data, .data, .handle, .sentinel, .sentinel, .sentinel, .sentinel, .sentinel, .sentinel, .sentinel, .sentinel, .sentinel, .pinned], laidTests := true, laidLooks := .later }
def JsonOneUptoCardSaid : Prop := Claim7.holds Tryz.pinned (.plain (OpenSpec.upto jsonOneSpec)) jsonOneUptoCard
end Rows
end Go.Proofs.YtmfcfckpjpcioaaGreatDoor
