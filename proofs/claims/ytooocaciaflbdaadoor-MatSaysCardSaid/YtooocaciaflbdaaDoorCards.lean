/-
  DERIVED. GIVEN WITH THE SEED: THE CARDS: each row of YtooocaciaflbdaaDoorRows.lean that lists a variable, with what it lists TIED to the program's text (the seventh form; the later family's looks); each row that meets fmt, with fmt's text TOLD by the authors' own Lean function (tested against real Go, not proved from fmt's source: count such statements apart). THE CARD IS WHAT COUNTS. Prove the row's statement (the work); the ties are given (YtooocaciaflbdaaDoorTie.lean); close each card by the builder's one call (the guide's Derived/Test/ToyasCard.lean, 'card_holds'). Laid BY PROGRAM, IN A SANDBOX (cutbox-door.mjs). By AI agents, Wed Nov 11 2026. No macro, syntax, notation, axiom, sorry.
-/
import Derived.Test.YtooocaciaflbdaaDoorRows
import GoSem.ClaimSeven
namespace Go.Proofs.YtooocaciaflbdaaDoor
namespace Rows

/-- THE TIED CARD OF 'lodgelaw8.MatAdds'. -/
def matAddsCard : Claim7 := { stood := { row := matAddsRow, standIns := [], harness := (true, "c23818c525d2489fd58b9a9559e7728bdadd26949451d498f3f58d7a4f3a087a"), looks := true }, kinds := [], alts := [], laidByText := true, laidKinds := [.sentinel, .sentinel, .sentinel], laidTests := true, laidLooks := .later }
def MatAddsCardSaid : Prop := Claim7.holds Tryd.pinned (.plain (OpenSpec.ofChange matAddsSpec)) matAddsCard

/-- THE TIED CARD OF 'lodgelaw8.MatOnes'. -/
def matOnesCard : Claim7 := { stood := { row := matOnesRow, standIns := [], harness := (true, "c23818c525d2489fd58b9a9559e7728bdadd26949451d498f3f58d7a4f3a087a"), looks := true }, kinds := [], alts := [], laidByText := true, laidKinds := [.sentinel, .sentinel, .sentinel], laidTests := true, laidLooks := .later }
def MatOnesCardSaid : Prop := Claim7.holds Tryd.pinned (.plain (OpenSpec.ofChange matOnesSpec)) matOnesCard

/-- THE TIED CARD OF 'lodgelaw8.MatTurns'. -/
def matTurnsCard : Claim7 := { stood := { row := matTurnsRow, standIns := [], harness := (true, "c23818c525d2489fd58b9a9559e7728bdadd26949451d498f3f58d7a4f3a087a"), looks := true }, kinds := [], alts := [], laidByText := true, laidKinds := [.sentinel, .sentinel, .sentinel], laidTests := true, laidLooks := .later }
def MatTurnsCardSaid : Prop := Claim7.holds Tryd.pinned (.plain (OpenSpec.ofChange matTurnsSpec)) matTurnsCard

/-- THE TIED CARD OF 'lodgelaw8.MatSays'. -/
def matSaysCard : Claim7 := { stood := { row := matSaysRow, standIns := [], harness := (true, "c23818c525d2489fd58b9a9559e7728bdadd26949451d498f3f58d7a4f3a087a"), looks := true }, kinds := [], alts := [], laidByText := true, laidKinds := [.sentinel, .sentinel, .sentinel, .sentinel, .sentinel, .sentinel, .sentinel, .sentinel, .sentinel, .sentinel, .sentinel, .sentinel, .sentinel, .sentinel, .sentinel, .sentinel, .sentinel, .sentinel, .sentinel, .sentinel, .sentinel], laidTests := true, laidLooks := .later }
def MatSaysCardSaid : Prop := Claim7.holds Tryd.pinned (.plain (OpenSpec.ofChange matSaysSpec)) matSaysCard

/-- THE SECOND FORM's CARD OF 'lodgelaw8.MatAdds'. -/
def matAddsUptoCard : Claim7 := { stood := { row := matAddsUptoRow, standIns := [], harness := (true, "c23818c525d2489fd58b9a9559e7728bdadd26949451d498f3f58d7a4f3a087a"), looks := true }, kinds := [], alts := [], laidByText := true, laidKinds := [.sentinel, .sentinel, .sentinel], laidTests := true, laidLooks := .later }
def MatAddsUptoCardSaid : Prop := Claim7.holds Tryd.pinned (.plain (OpenSpec.upto matAddsSpec)) matAddsUptoCard

/-- THE SECOND FORM's CARD OF 'lodgelaw8.MatOnes'. -/
def matOnesUptoCard : Claim7 := { stood := { row := matOnesUptoRow, standIns := [], harness := (true, "c23818c525d2489fd58b9a9559e7728bdadd26949451d498f3f58d7a4f3a087a"), looks := true }, kinds := [], alts := [], laidByText := true, laidKinds := [.sentinel, .sentinel, .sentinel], laidTests := true, laidLooks := .later }
def MatOnesUptoCardSaid : Prop := Claim7.holds Tryd.pinned (.plain (OpenSpec.upto matOnesSpec)) matOnesUptoCard

/-- THE SECOND FORM's CARD OF 'lodgelaw8.MatTurns'. -/
def matTurnsUptoCard : Claim7 := { stood := { row := matTurnsUptoRow, standIns := [], harness := (true, "c23818c525d2489fd58b9a9559e7728bdadd26949451d498f3f58d7a4f3a087a"), looks := true }, kinds := [], alts := [], laidByText := true, laidKinds := [.sentinel, .sentinel, .sentinel], laidTests := true, laidLooks := .later }
def MatTurnsUptoCardSaid : Prop := Claim7.holds Tryd.pinned (.plain (OpenSpec.upto matTurnsSpec)) matTurnsUptoCard

/-- THE SECOND FORM's CARD OF 'lodgelaw8.MatSays'. -/
def matSaysUptoCard : Claim7 := { stood := { row := matSaysUptoRow, standIns := [], harness := (true, "c23818c525d2489fd58b9a9559e7728bdadd26949451d498f3f58d7a4f3a087a"), looks := true }, kinds := [], alts := [], laidByText := true, laidKinds := [.sentinel, .sentinel, .sentinel, .sentinel, .sentinel, .sentinel, .sentinel, .sentinel, .sentinel, .sentinel, .sentinel, .sentinel, .sentinel, .sentinel, .sentinel, .sentinel, .sentinel, .sentinel, .sentinel, .sentinel, .sentinel], laidTests := true, laidLooks := .later }
def MatSaysUptoCardSaid : Prop := Claim7.holds Tryd.pinned (.plain (OpenSpec.upto matSaysSpec)) matSaysUptoCard
end Rows
end Go.Proofs.YtooocaciaflbdaaDoor
