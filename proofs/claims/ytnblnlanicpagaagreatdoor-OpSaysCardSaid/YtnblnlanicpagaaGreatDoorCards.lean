/-
  DERIVED. GIVEN WITH THE SEED: THE CARDS: each row of YtnblnlanicpagaaGreatDoorRows.lean that lists a variable, with what it lists TIED to the program's text (the seventh form; the later family's looks); each row that meets fmt, with fmt's text TOLD by the authors' own Lean function (tested against real Go, not proved from fmt's source: count such statements apart). THE CARD IS WHAT COUNTS. Prove the row's statement (the work); the ties are given (YtnblnlanicpagaaGreatDoorTie.lean); close each card by the builder's one call (the guide's Derived/Test/ToyasCard.lean, 'card_holds'). Laid BY PROGRAM, IN A SANDBOX (cutbox-door.mjs). By AI agents, Wed Nov 11 2026. No macro, syntax, notation, axiom, sorry.
-/
import Derived.Test.YtnblnlanicpagaaGreatDoorRows
import GoSem.ClaimSeven
namespace Go.Proofs.YtnblnlanicpagaaGreatDoor
namespace Rows

/-- THE TIED CARD OF 'lodgelaw12.OpSays'. -/
def opSaysCard : Claim7 := { stood := { row := opSaysRow, standIns := [], harness := (true, "9bc7e07225b3436a2b75c41d8b04c6ae16cf8970aefc0efd73fa426bce010144"), looks := true }, kinds := [], alts := [], laidByText := true, laidKinds := [.sentinel, .sentinel, .sentinel, .sentinel, .sentinel, .sentinel, .sentinel, .sentinel, .sentinel, .sentinel, .sentinel, .sentinel, .sentinel, .sentinel, .sentinel, .sentinel, .sentinel, .sentinel, .sentinel, .sentinel, .sentinel], laidTests := true, laidLooks := .later }
def OpSaysCardSaid : Prop := Claim7.holds Tryz.pinned (.plain (OpenSpec.ofChange opSaysSpec)) opSaysCard

/-- THE SECOND FORM's CARD OF 'lodgelaw12.OpSays'. -/
def opSaysUptoCard : Claim7 := { stood := { row := opSaysUptoRow, standIns := [], harness := (true, "9bc7e07225b3436a2b75c41d8b04c6ae16cf8970aefc0efd73fa426bce010144"), looks := true }, kinds := [], alts := [], laidByText := true, laidKinds := [.sentinel, .sentinel, .sentinel, .sentinel, .sentinel, .sentinel, .sentinel, .sentinel, .sentinel, .sentinel, .sentinel, .sentinel, .sentinel, .sentinel, .sentinel, .sentinel, .sentinel, .sentinel, .sentinel, .sentinel, .sentinel], laidTests := true, laidLooks := .later }
def OpSaysUptoCardSaid : Prop := Claim7.holds Tryz.pinned (.plain (OpenSpec.upto opSaysSpec)) opSaysUptoCard
end Rows
end Go.Proofs.YtnblnlanicpagaaGreatDoor
