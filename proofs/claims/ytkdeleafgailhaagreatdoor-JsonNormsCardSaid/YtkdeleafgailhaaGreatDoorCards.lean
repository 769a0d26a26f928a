/-
  DERIVED. GIVEN WITH THE SEED: THE CARDS: each row of YtkdeleafgailhaaGreatDoorRows.lean that lists a variable, with what it lists TIED to the program's text (the seventh form; the later family's looks); each row that meets fmt, with fmt's text TOLD by the authors' own Lean function (tested against real Go, not proved from fmt's source: count such statements apart). THE CARD IS WHAT COUNTS. Prove the row's statement (the work); the ties are given (YtkdeleafgailhaaGreatDoorTie.lean); close each card by the builder's one call (the guide's Derived/Test/ToyasCard.lean, 'card_holds'). Laid BY PROGRAM, IN A SANDBOX (cutbox-door.mjs). By AI agents, Wed Nov 11 2026. No macro, syntax, notation, axiom, sorry.
-/
import Derived.Test.YtkdeleafgailhaaGreatDoorRows
import GoSem.ClaimSeven
namespace Go.Proofs.YtkdeleafgailhaaGreatDoor
namespace Rows

/-- THE TIED CARD OF 'voyagelaw02.JsonNorms'. -/
def jsonNormsCard : Claim7 := { stood := { row := jsonNormsRow, standIns := [], harness := (true, "bcb77dec67071cfe3e94f413f1e2898c1ec10d8194c7b0288bd95c7e48971bf4"), looks := true }, kinds := [], alts := [], laidByText := true, laidKinds := [.data, .data, .data, .data, .handle, .sentinel, .sentinel, .sentinel, .sentinel, .sentinel, .sentinel, .sentinel, .sentinel, .sentinel, .pinned], laidTests := true, laidLooks := .later }
def JsonNormsCardSaid : Prop := Claim7.holds Tryz.pinned (.plain (OpenSpec.ofChange jsonNormsSpec)) jsonNormsCard

/-- THE TIED CARD OF 'voyagelaw13.RecordBack'. -/
def recordBackCard : Claim7 := { stood := { row := recordBackRow, standIns := [], harness := (true, "bcb77dec67071cfe3e94f413f1e2898c1ec10d8194c7b0288bd95c7e48971bf4"), looks := true }, kinds := [], alts := [], laidByText := true, laidKinds := [.data, .data, .data, .data, .handle, .sentinel, .sentinel, .sentinel, .sentinel, .sentinel, .sentinel, .sentinel, .sentinel, .sentinel, .sentinel, .data, .pinned], laidTests := true, laidLooks := .later }
def RecordBackCardSaid : Prop := Claim7.holds Tryz.pinned (.plain (OpenSpec.ofChange recordBackSpec)) recordBackCard

/-- THE TIED CARD OF 'voyagelaw13.RecordOne'. -/
def recordOneCard : Claim7 := { stood := { row := recordOneRow, standIns := [], harness := (true, "bcb77dec67071cfe3e94f413f1e2898c1ec10d8194c7b0288bd95c7e48971bf4"), looks := true }, kinds := [], alts := [], laidByText := true, laidKinds := [.data, .data, .data, .data, .handle, .sentinel, .sentinel, .sentinel, .sentinel, .sentinel, .sentinel, .sentinel, .sentinel, .sentinel, .sentinel, .data, .pinned], laidTests := true, laidLooks := .later }
def RecordOneCardSaid : Prop := Claim7.holds Tryz.pinned (.plain (OpenSpec.ofChange recordOneSpec)) recordOneCard

/-- THE SECOND FORM's CARD OF 'voyagelaw02.JsonNorms'. -/
def jsonNormsUptoCard : Claim7 := { stood := { row := jsonNormsUptoRow, standIns := [], harness := (true, "bcb77dec67071cfe3e94f413f1e2898c1ec10d8194c7b0288bd95c7e48971bf4"), looks := true }, kinds := [], alts := [], laidByText := true, laidKinds := [.data, .data, .data, .data, .handle, .sentinel, .sentinel, .sentinel, .sentinel, .sentinel, .sentinel, .sentinel, .sentinel, .sentinel, .pinned], laidTests := true, laidLooks := .later }
def JsonNormsUptoCardSaid : Prop := Claim7.holds Tryz.pinned (.plain (OpenSpec.upto jsonNormsSpec)) jsonNormsUptoCard

/-- THE SECOND FORM's CARD OF 'voyagelaw13.RecordBack'. -/
def recordBackUptoCard : Claim7 := { stood := { row := recordBackUptoRow, standIns := [], harness := (true, "bcb77dec67071cfe3e94f413f1e2898c1ec10d8194c7b0288bd95c7e48971bf4"), looks := true }, kinds := [], alts := [], laidByText := true, laidKinds := [.data, .data, .data, .data, .handle, .sentinel, .sentinel, .sentinel, .sentinel, .sentinel, .sentinel, .sentinel, .sentinel, .sentinel, .sentinel, .data, .pinned], laidTests := true, laidLooks := .later }
def RecordBackUptoCardSaid : Prop := Claim7.holds Tryz.pinned (.plain (OpenSpec.upto recordBackSpec)) recordBackUptoCard

/-- THE SECOND FORM's CARD OF 'voyagelaw13.RecordOne'. -/
def recordOneUptoCard : Claim7 := { stood := { row := recordOneUptoRow, standIns := [], harness := (true, "bcb77dec67071cfe3e94f413f1e2898c1ec10d8194c7b0288bd95c7e48971bf4"), looks := true }, kinds := [], alts := [], laidByText := true, laidKinds := [.data, .data, .data, .data, .handle, .sentinel, .sentinel, .sentinel, .sentinel, .sentinel, .sentinel, .sentinel, .sentinel, .sentinel, .sentinel, .data, .pinned], laidTests := true, laidLooks := .later }
def RecordOneUptoCardSaid : Prop := Claim7.holds Tryz.pinned (.plain (OpenSpec.upto recordOneSpec)) recordOneUptoCard
end Rows
end Go.Proofs.YtkdeleafgailhaaGreatDoor
