/-
  DERIVED. GIVEN WITH THE SEED: THE CARDS: each row of YtbpifndhkdbmhaaDoorRows.lean that lists a variable, with what it lists TIED to the program's text (the seventh form; the later family's looks); each row that meets fmt, with fmt's text TOLD by the authors' own Lean function (tested against real Go, not proved from fmt's source: count such statements apart). THE CARD IS WHAT COUNTS. Prove the row's statement (the work); the ties are given (YtbpifndhkdbmhaaDoorTie.lean); close each card by the builder's one call (the guide's Derived/Test/ToyasCard.lean, 'card_holds'). Laid BY PROGRAM, IN A SANDBOX (cutbox-door.mjs). By AI agents, Wed Nov 11 2026. No macro, syntax, notation, axiom, sorry.
-/
import Derived.Test.YtbpifndhkdbmhaaDoorRows
import GoSem.ClaimSeven
namespace Go.Proofs.YtbpifndhkdbmhaaDoor
namespace Rows

/-- THE TIED CARD OF 'lodgelaw9.ConvInside'. -/
def convInsideCard : Claim7 := { stood := { row := convInsideRow, standIns := [], harness := (true, "e7e40e7563ec582df15483a8553d01831d7b86a65dcea2ec4d629ed6863931b6"), looks := true }, kinds := [], alts := [], laidByText := true, laidKinds := [.sentinel, .sentinel, .sentinel], laidTests := true, laidLooks := .later }
def ConvInsideCardSaid : Prop := Claim7.holds Tryd.pinned (.plain (OpenSpec.ofChange convInsideSpec)) convInsideCard

/-- THE TIED CARD OF 'lodgelaw9.ConvOnly'. -/
def convOnlyCard : Claim7 := { stood := { row := convOnlyRow, standIns := [], harness := (true, "e7e40e7563ec582df15483a8553d01831d7b86a65dcea2ec4d629ed6863931b6"), looks := true }, kinds := [], alts := [], laidByText := true, laidKinds := [.sentinel, .sentinel, .sentinel], laidTests := true, laidLooks := .later }
def ConvOnlyCardSaid : Prop := Claim7.holds Tryd.pinned (.plain (OpenSpec.ofChange convOnlySpec)) convOnlyCard

/-- THE TIED CARD OF 'lodgelaw9.ConvSays'. -/
def convSaysCard : Claim7 := { stood := { row := convSaysRow, standIns := [], harness := (true, "e7e40e7563ec582df15483a8553d01831d7b86a65dcea2ec4d629ed6863931b6"), looks := true }, kinds := [], alts := [], laidByText := true, laidKinds := [.sentinel, .sentinel, .sentinel, .sentinel, .sentinel, .sentinel, .sentinel, .sentinel, .sentinel, .sentinel, .sentinel, .sentinel, .sentinel, .sentinel, .sentinel, .sentinel, .sentinel, .sentinel, .sentinel, .sentinel, .sentinel], laidTests := true, laidLooks := .later }
def ConvSaysCardSaid : Prop := Claim7.holds Tryd.pinned (.plain (OpenSpec.ofChange convSaysSpec)) convSaysCard

/-- THE TIED CARD OF 'lodgelaw9.ConvStrides'. -/
def convStridesCard : Claim7 := { stood := { row := convStridesRow, standIns := [], harness := (true, "e7e40e7563ec582df15483a8553d01831d7b86a65dcea2ec4d629ed6863931b6"), looks := true }, kinds := [], alts := [], laidByText := true, laidKinds := [.sentinel, .sentinel, .sentinel], laidTests := true, laidLooks := .later }
def ConvStridesCardSaid : Prop := Claim7.holds Tryd.pinned (.plain (OpenSpec.ofChange convStridesSpec)) convStridesCard

/-- THE TIED CARD OF 'lodgelaw9.ConvPads'. -/
def convPadsCard : Claim7 := { stood := { row := convPadsRow, standIns := [], harness := (true, "e7e40e7563ec582df15483a8553d01831d7b86a65dcea2ec4d629ed6863931b6"), looks := true }, kinds := [], alts := [], laidByText := true, laidKinds := [.sentinel, .sentinel, .sentinel], laidTests := true, laidLooks := .later }
def ConvPadsCardSaid : Prop := Claim7.holds Tryd.pinned (.plain (OpenSpec.ofChange convPadsSpec)) convPadsCard

/-- THE TIED CARD OF 'lodgelaw9.ConvOnes'. -/
def convOnesCard : Claim7 := { stood := { row := convOnesRow, standIns := [], harness := (true, "e7e40e7563ec582df15483a8553d01831d7b86a65dcea2ec4d629ed6863931b6"), looks := true }, kinds := [], alts := [], laidByText := true, laidKinds := [.sentinel, .sentinel, .sentinel], laidTests := true, laidLooks := .later }
def ConvOnesCardSaid : Prop := Claim7.holds Tryd.pinned (.plain (OpenSpec.ofChange convOnesSpec)) convOnesCard

/-- THE SECOND FORM's CARD OF 'lodgelaw9.ConvInside'. -/
def convInsideUptoCard : Claim7 := { stood := { row := convInsideUptoRow, standIns := [], harness := (true, "e7e40e7563ec582df15483a8553d01831d7b86a65dcea2ec4d629ed6863931b6"), looks := true }, kinds := [], alts := [], laidByText := true, laidKinds := [.sentinel, .sentinel, .sentinel], laidTests := true, laidLooks := .later }
def ConvInsideUptoCardSaid : Prop := Claim7.holds Tryd.pinned (.plain (OpenSpec.upto convInsideSpec)) convInsideUptoCard

/-- THE SECOND FORM's CARD OF 'lodgelaw9.ConvOnly'. -/
def convOnlyUptoCard : Claim7 := { stood := { row := convOnlyUptoRow, standIns := [], harness := (true, "e7e40e7563ec582df15483a8553d01831d7b86a65dcea2ec4d629ed6863931b6"), looks := true }, kinds := [], alts := [], laidByText := true, laidKinds := [.sentinel, .sentinel, .sentinel], laidTests := true, laidLooks := .later }
def ConvOnlyUptoCardSaid : Prop := Claim7.holds Tryd.pinned (.plain (OpenSpec.upto convOnlySpec)) convOnlyUptoCard

/-- THE SECOND FORM's CARD OF 'lodgelaw9.ConvSays'. -/
def convSaysUptoCard : Claim7 := { stood := { row := convSaysUptoRow, standIns := [], harness := (true, "e7e40e7563ec582df15483a8553d01831d7b86a65dcea2ec4d629ed6863931b6"), looks := true }, kinds := [], alts := [], laidByText := true, laidKinds := [.sentinel, .sentinel, .sentinel, .sentinel, .sentinel, .sentinel, .sentinel, .sentinel, .sentinel, .sentinel, .sentinel, .sentinel, .sentinel, .sentinel, .sentinel, .sentinel, .sentinel, .sentinel, .sentinel, .sentinel, .sentinel], laidTests := true, laidLooks := .later }
def ConvSaysUptoCardSaid : Prop := Claim7.holds Tryd.pinned (.plain (OpenSpec.upto convSaysSpec)) convSaysUptoCard

/-- THE SECOND FORM's CARD OF 'lodgelaw9.ConvStrides'. -/
def convStridesUptoCard : Claim7 := { stood := { row := convStridesUptoRow, standIns := [], harness := (true, "e7e40e7563ec582df15483a8553d01831d7b86a65dcea2ec4d629ed6863931b6"), looks := true }, kinds := [], alts := [], laidByText := true, laidKinds := [.sentinel, .sentinel, .sentinel], laidTests := true, laidLooks := .later }
def ConvStridesUptoCardSaid : Prop := Claim7.holds Tryd.pinned (.plain (OpenSpec.upto convStridesSpec)) convStridesUptoCard

/-- THE SECOND FORM's CARD OF 'lodgelaw9.ConvPads'. -/
def convPadsUptoCard : Claim7 := { stood := { row := convPadsUptoRow, standIns := [], harness := (true, "e7e40e7563ec582df15483a8553d01831d7b86a65dcea2ec4d629ed6863931b6"), looks := true }, kinds := [], alts := [], laidByText := true, laidKinds := [.sentinel, .sentinel, .sentinel], laidTests := true, laidLooks := .later }
def ConvPadsUptoCardSaid : Prop := Claim7.holds Tryd.pinned (.plain (OpenSpec.upto convPadsSpec)) convPadsUptoCard

/-- THE SECOND FORM's CARD OF 'lodgelaw9.ConvOnes'. -/
def convOnesUptoCard : Claim7 := { stood := { row := convOnesUptoRow, standIns := [], harness := (true, "e7e40e7563ec582df15483a8553d01831d7b86a65dcea2ec4d629ed6863931b6"), looks := true }, kinds := [], alts := [], laidByText := true, laidKinds := [.sentinel, .sentinel, .sentinel], laidTests := true, laidLooks := .later }
def ConvOnesUptoCardSaid : Prop := Claim7.holds Tryd.pinned (.plain (OpenSpec.upto convOnesSpec)) convOnesUptoCard
end Rows
end Go.Proofs.YtbpifndhkdbmhaaDoor
