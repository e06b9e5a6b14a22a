/-
  DERIVED. GIVEN WITH THE SEED: THE CARDS: each row of YtpekhdbkekiblaaGreatDoorRows.lean that lists a variable, with what it lists TIED to the program's text (the seventh form; the later family's looks); each row that meets fmt, with fmt's text TOLD by the authors' own Lean function (tested against real Go, not proved from fmt's source: count such statements apart). THE CARD IS WHAT COUNTS. Prove the row's statement (the work); the ties are given (YtpekhdbkekiblaaGreatDoorTie.lean); close each card by the builder's one call (the guide's Derived/Test/ToyasCard.lean, 'card_holds'). Laid BY PROGRAM, IN A SANDBOX (cutbox-door.mjs). By AI agents, Wed Nov 11 2026. No macro, syntax, notation, axiom, sorry.
-/
import Derived.Test.YtpekhdbkekiblaaGreatDoorRows
import GoSem.ClaimSeven
namespace Go.Proofs.YtpekhdbkekiblaaGreatDoor
namespace Rows

/-- THE TIED CARD OF 'lodgelaw28.CellBodies'. -/
def cellBodiesCard : Claim7 := { stood := { row := cellBodiesRow, standIns := [], harness := (true, "a6318ab5980830bafef364a1937106796ad97be1486b8bd93f76575fdcc27bc2"), looks := true }, kinds := [], alts := [], laidByText := true, laidKinds := [.handle, .sentinel, .sentinel, .sentinel, .sentinel, .sentinel, .sentinel, .sentinel, .sentinel, .sentinel, .sentinel, .sentinel, .sentinel, .sentinel, .sentinel, .sentinel, .sentinel, .sentinel, .sentinel, .sentinel, .sentinel, .sentinel], laidTests := true, laidLooks := .later }
def CellBodiesCardSaid : Prop := Claim7.holds Tryz.pinned (.plain (OpenSpec.ofChange cellBodiesSpec)) cellBodiesCard

/-- THE TIED CARD OF 'lodgelaw28.CellRooms'. -/
def cellRoomsCard : Claim7 := { stood := { row := cellRoomsRow, standIns := [], harness := (true, "a6318ab5980830bafef364a1937106796ad97be1486b8bd93f76575fdcc27bc2"), looks := true }, kinds := [], alts := [], laidByText := true, laidKinds := [.handle, .sentinel, .sentinel, .sentinel, .sentinel, .sentinel, .sentinel, .sentinel, .sentinel, .sentinel, .sentinel, .sentinel, .sentinel, .sentinel, .sentinel, .sentinel, .sentinel, .sentinel, .sentinel, .sentinel, .sentinel, .sentinel], laidTests := true, laidLooks := .later }
def CellRoomsCardSaid : Prop := Claim7.holds Tryz.pinned (.plain (OpenSpec.ofChange cellRoomsSpec)) cellRoomsCard

/-- THE TIED CARD OF 'lodgelaw28.CellPlaces'. -/
def cellPlacesCard : Claim7 := { stood := { row := cellPlacesRow, standIns := [], harness := (true, "a6318ab5980830bafef364a1937106796ad97be1486b8bd93f76575fdcc27bc2"), looks := true }, kinds := [], alts := [], laidByText := true, laidKinds := [.handle, .sentinel, .sentinel, .sentinel, .sentinel, .sentinel, .sentinel, .sentinel, .sentinel, .sentinel, .sentinel, .sentinel, .sentinel, .sentinel, .sentinel, .sentinel, .sentinel, .sentinel, .sentinel, .sentinel, .sentinel, .sentinel], laidTests := true, laidLooks := .later }
def CellPlacesCardSaid : Prop := Claim7.holds Tryz.pinned (.plain (OpenSpec.ofChange cellPlacesSpec)) cellPlacesCard

/-- THE TIED CARD OF 'lodgelaw28.CellTurns'. -/
def cellTurnsCard : Claim7 := { stood := { row := cellTurnsRow, standIns := [], harness := (true, "a6318ab5980830bafef364a1937106796ad97be1486b8bd93f76575fdcc27bc2"), looks := true }, kinds := [], alts := [], laidByText := true, laidKinds := [.handle, .sentinel, .sentinel, .sentinel, .sentinel, .sentinel, .sentinel, .sentinel, .sentinel, .sentinel, .sentinel, .sentinel, .sentinel, .sentinel, .sentinel, .sentinel, .sentinel, .sentinel, .sentinel, .sentinel, .sentinel, .sentinel], laidTests := true, laidLooks := .later }
def CellTurnsCardSaid : Prop := Claim7.holds Tryz.pinned (.plain (OpenSpec.ofChange cellTurnsSpec)) cellTurnsCard

/-- THE TIED CARD OF 'lodgelaw28.CellQueue'. -/
def cellQueueCard : Claim7 := { stood := { row := cellQueueRow, standIns := [], harness := (true, "a6318ab5980830bafef364a1937106796ad97be1486b8bd93f76575fdcc27bc2"), looks := true }, kinds := [], alts := [], laidByText := true, laidKinds := [.handle, .sentinel, .sentinel, .sentinel, .sentinel, .sentinel, .sentinel, .sentinel, .sentinel, .sentinel, .sentinel, .sentinel, .sentinel, .sentinel, .sentinel, .sentinel, .sentinel, .sentinel, .sentinel, .sentinel, .sentinel, .sentinel], laidTests := true, laidLooks := .later }
def CellQueueCardSaid : Prop := Claim7.holds Tryz.pinned (.plain (OpenSpec.ofChange cellQueueSpec)) cellQueueCard

/-- THE TIED CARD OF 'lodgelaw28.CellStops'. -/
def cellStopsCard : Claim7 := { stood := { row := cellStopsRow, standIns := [], harness := (true, "a6318ab5980830bafef364a1937106796ad97be1486b8bd93f76575fdcc27bc2"), looks := true }, kinds := [], alts := [], laidByText := true, laidKinds := [.handle, .sentinel, .sentinel, .sentinel, .sentinel, .sentinel, .sentinel, .sentinel, .sentinel, .sentinel, .sentinel, .sentinel, .sentinel, .sentinel, .sentinel, .sentinel, .sentinel, .sentinel, .sentinel, .sentinel, .sentinel, .sentinel], laidTests := true, laidLooks := .later }
def CellStopsCardSaid : Prop := Claim7.holds Tryz.pinned (.plain (OpenSpec.ofChange cellStopsSpec)) cellStopsCard

/-- THE SECOND FORM's CARD OF 'lodgelaw28.CellBodies'. -/
def cellBodiesUptoCard : Claim7 := { stood := { row := cellBodiesUptoRow, standIns := [], harness := (true, "a6318ab5980830bafef364a1937106796ad97be1486b8bd93f76575fdcc27bc2"), looks := true }, kinds := [], alts := [], laidByText := true, laidKinds := [.handle, .sentinel, .sentinel, .sentinel, .sentinel, .sentinel, .sentinel, .sentinel, .sentinel, .sentinel, .sentinel, .sentinel, .sentinel, .sentinel, .sentinel, .sentinel, .sentinel, .sentinel, .sentinel, .sentinel, .sentinel, .sentinel], laidTests := true, laidLooks := .later }
def CellBodiesUptoCardSaid : Prop := Claim7.holds Tryz.pinned (.plain (OpenSpec.upto cellBodiesSpec)) cellBodiesUptoCard

/-- THE SECOND FORM's CARD OF 'lodgelaw28.CellRooms'. -/
def cellRoomsUptoCard : Claim7 := { stood := { row := cellRoomsUptoRow, standIns := [], harness := (true, "a6318ab5980830bafef364a1937106796ad97be1486b8bd93f76575fdcc27bc2"), looks := true }, kinds := [], alts := [], laidByText := true, laidKinds := [.handle, .sentinel, .sentinel, .sentinel, .sentinel, .sentinel, .sentinel, .sentinel, .sentinel, .sentinel, .sentinel, .sentinel, .sentinel, .sentinel, .sentinel, .sentinel, .sentinel, .sentinel, .sentinel, .sentinel, .sentinel, .sentinel], laidTests := true, laidLooks := .later }
def CellRoomsUptoCardSaid : Prop := Claim7.holds Tryz.pinned (.plain (OpenSpec.upto cellRoomsSpec)) cellRoomsUptoCard

/-- THE SECOND FORM's CARD OF 'lodgelaw28.CellPlaces'. -/
def cellPlacesUptoCard : Claim7 := { stood := { row := cellPlacesUptoRow, standIns := [], harness := (true, "a6318ab5980830bafef364a1937106796ad97be1486b8bd93f76575fdcc27bc2"), looks := true }, kinds := [], alts := [], laidByText := true, laidKinds := [.handle, .sentinel, .sentinel, .sentinel, .sentinel, .sentinel, .sentinel, .sentinel, .sentinel, .sentinel, .sentinel, .sentinel, .sentinel, .sentinel, .sentinel, .sentinel, .sentinel, .sentinel, .sentinel, .sentinel, .sentinel, .sentinel], laidTests := true, laidLooks := .later }
def CellPlacesUptoCardSaid : Prop := Claim7.holds Tryz.pinned (.plain (OpenSpec.upto cellPlacesSpec)) cellPlacesUptoCard

/-- THE SECOND FORM's CARD OF 'lodgelaw28.CellTurns'. -/
def cellTurnsUptoCard : Claim7 := { stood := { row := cellTurnsUptoRow, standIns := [], harness := (true, "a6318ab5980830bafef364a1937106796ad97be1486b8bd93f76575fdcc27bc2"), looks := true }, kinds := [], alts := [], laidByText := true, laidKinds := [.handle, .sentinel, .sentinel, .sentinel, .sentinel, .sentinel, .sentinel, .sentinel, .sentinel, .sentinel, .sentinel, .sentinel, .sentinel, .sentinel, .sentinel, .sentinel, .sentinel, .sentinel, .sentinel, .sentinel, .sentinel, .sentinel], laidTests := true, laidLooks := .later }
def CellTurnsUptoCardSaid : Prop := Claim7.holds Tryz.pinned (.plain (OpenSpec.upto cellTurnsSpec)) cellTurnsUptoCard

/-- THE SECOND FORM's CARD OF 'lodgelaw28.CellQueue'. -/
def cellQueueUptoCard : Claim7 := { stood := { row := cellQueueUptoRow, standIns := [], harness := (true, "a6318ab5980830bafef364a1937106796ad97be1486b8bd93f76575fdcc27bc2"), looks := true }, kinds := [], alts := [], laidByText := true, laidKinds := [.handle, .sentinel, .sentinel, .sentinel, .sentinel, .sentinel, .sentinel, .sentinel, .sentinel, .sentinel, .sentinel, .sentinel, .sentinel, .sentinel, .sentinel, .sentinel, .sentinel, .sentinel, .sentinel, .sentinel, .sentinel, .sentinel], laidTests := true, laidLooks := .later }
def CellQueueUptoCardSaid : Prop := Claim7.holds Tryz.pinned (.plain (OpenSpec.upto cellQueueSpec)) cellQueueUptoCard

/-- THE SECOND FORM's CARD OF 'lodgelaw28.CellStops'. -/
def cellStopsUptoCard : Claim7 := { stood := { row := cellStopsUptoRow, standIns := [], harness := (true, "a6318ab5980830bafef364a1937106796ad97be1486b8bd93f76575fdcc27bc2"), looks := true }, kinds := [], alts := [], laidByText := true, laidKinds := [.handle, .sentinel, .sentinel, .sentinel, .sentinel, .sentinel, .sentinel, .sentinel, .sentinel, .sentinel, .sentinel, .sentinel, .sentinel, .sentinel, .sentinel, .sentinel, .sentinel, .sentinel, .sentinel, .sentinel, .sentinel, .sentinel], laidTests := true, laidLooks := .later }
def CellStopsUptoCardSaid : Prop := Claim7.holds Tryz.pinned (.plain (OpenSpec.upto cellStopsSpec)) cellStopsUptoCard
end Rows
end Go.Proofs.YtpekhdbkekiblaaGreatDoor
