/-
  DERIVED. GIVEN WITH THE SEED: THE CARDS: each row of YtohkmbpdjigjdaaDoorRows.lean that lists a variable, with what it lists TIED to the program's text (the seventh form; the later family's looks); each row that meets fmt, with fmt's text TOLD by the authors' own Lean function (tested against real Go, not proved from fmt's source: count such statements apart). THE CARD IS WHAT COUNTS. Prove the row's statement (the work); the ties are given (YtohkmbpdjigjdaaDoorTie.lean); close each card by the builder's one call (the guide's Derived/Test/ToyasCard.lean, 'card_holds'). Laid BY PROGRAM, IN A SANDBOX (cutbox-door.mjs). By AI agents, Wed Nov 11 2026. No macro, syntax, notation, axiom, sorry.
-/
import Derived.Test.YtohkmbpdjigjdaaDoorRows
import GoSem.ClaimSeven
namespace Go.Proofs.YtohkmbpdjigjdaaDoor
namespace Rows

/-- THE TIED CARD OF 'lodgelaw11.SoftTables'. -/
def softTablesCard : Claim7 := { stood := { row := softTablesRow, standIns := [], harness := (true, "bea30a4843f9f40c63a0d020fc6ebdfbdc292b6813cc77f5df40f4536a233494"), looks := true }, kinds := [], alts := [], laidByText := true, laidKinds := [.sentinel, .sentinel, .sentinel, .sentinel, .sentinel, .sentinel, .sentinel, .sentinel, .sentinel, .sentinel, .sentinel, .sentinel, .sentinel, .sentinel, .sentinel, .sentinel, .sentinel, .sentinel, .sentinel, .sentinel, .sentinel], laidTests := true, laidLooks := .later }
def SoftTablesCardSaid : Prop := Claim7.holds Tryd.pinned (.plain (OpenSpec.ofChange softTablesSpec)) softTablesCard

/-- THE TIED CARD OF 'lodgelaw11.SoftNothing'. -/
def softNothingCard : Claim7 := { stood := { row := softNothingRow, standIns := [], harness := (true, "bea30a4843f9f40c63a0d020fc6ebdfbdc292b6813cc77f5df40f4536a233494"), looks := true }, kinds := [], alts := [], laidByText := true, laidKinds := [.sentinel, .sentinel, .sentinel, .sentinel], laidTests := true, laidLooks := .later }
def SoftNothingCardSaid : Prop := Claim7.holds Tryd.pinned (.plain (OpenSpec.ofChange softNothingSpec)) softNothingCard

/-- THE TIED CARD OF 'lodgelaw11.SoftShifts'. -/
def softShiftsCard : Claim7 := { stood := { row := softShiftsRow, standIns := [], harness := (true, "bea30a4843f9f40c63a0d020fc6ebdfbdc292b6813cc77f5df40f4536a233494"), looks := true }, kinds := [], alts := [], laidByText := true, laidKinds := [.sentinel, .sentinel, .sentinel, .sentinel], laidTests := true, laidLooks := .later }
def SoftShiftsCardSaid : Prop := Claim7.holds Tryd.pinned (.plain (OpenSpec.ofChange softShiftsSpec)) softShiftsCard

/-- THE TIED CARD OF 'lodgelaw11.SoftGathers'. -/
def softGathersCard : Claim7 := { stood := { row := softGathersRow, standIns := [], harness := (true, "bea30a4843f9f40c63a0d020fc6ebdfbdc292b6813cc77f5df40f4536a233494"), looks := true }, kinds := [], alts := [], laidByText := true, laidKinds := [.sentinel, .sentinel, .sentinel, .sentinel], laidTests := true, laidLooks := .later }
def SoftGathersCardSaid : Prop := Claim7.holds Tryd.pinned (.plain (OpenSpec.ofChange softGathersSpec)) softGathersCard

/-- THE TIED CARD OF 'lodgelaw11.SoftSays'. -/
def softSaysCard : Claim7 := { stood := { row := softSaysRow, standIns := [], harness := (true, "bea30a4843f9f40c63a0d020fc6ebdfbdc292b6813cc77f5df40f4536a233494"), looks := true }, kinds := [], alts := [], laidByText := true, laidKinds := [.sentinel, .sentinel, .sentinel, .sentinel, .sentinel, .sentinel, .sentinel, .sentinel, .sentinel, .sentinel, .sentinel, .sentinel, .sentinel, .sentinel, .sentinel, .sentinel, .sentinel, .sentinel, .sentinel, .sentinel, .sentinel], laidTests := true, laidLooks := .later }
def SoftSaysCardSaid : Prop := Claim7.holds Tryd.pinned (.plain (OpenSpec.ofChange softSaysSpec)) softSaysCard

/-- THE TIED CARD OF 'lodgelaw11.SoftRows'. -/
def softRowsCard : Claim7 := { stood := { row := softRowsRow, standIns := [], harness := (true, "bea30a4843f9f40c63a0d020fc6ebdfbdc292b6813cc77f5df40f4536a233494"), looks := true }, kinds := [], alts := [], laidByText := true, laidKinds := [.sentinel, .sentinel, .sentinel, .sentinel], laidTests := true, laidLooks := .later }
def SoftRowsCardSaid : Prop := Claim7.holds Tryd.pinned (.plain (OpenSpec.ofChange softRowsSpec)) softRowsCard

/-- THE SECOND FORM's CARD OF 'lodgelaw11.SoftTables'. -/
def softTablesUptoCard : Claim7 := { stood := { row := softTablesUptoRow, standIns := [], harness := (true, "bea30a4843f9f40c63a0d020fc6ebdfbdc292b6813cc77f5df40f4536a233494"), looks := true }, kinds := [], alts := [], laidByText := true, laidKinds := [.sentinel, .sentinel, .sentinel, .sentinel, .sentinel, .sentinel, .sentinel, .sentinel, .sentinel, .sentinel, .sentinel, .sentinel, .sentinel, .sentinel, .sentinel, .sentinel, .sentinel, .sentinel, .sentinel, .sentinel, .sentinel], laidTests := true, laidLooks := .later }
def SoftTablesUptoCardSaid : Prop := Claim7.holds Tryd.pinned (.plain (OpenSpec.upto softTablesSpec)) softTablesUptoCard

/-- THE SECOND FORM's CARD OF 'lodgelaw11.SoftNothing'. -/
def softNothingUptoCard : Claim7 := { stood := { row := softNothingUptoRow, standIns := [], harness := (true, "bea30a4843f9f40c63a0d020fc6ebdfbdc292b6813cc77f5df40f4536a233494"), looks := true }, kinds := [], alts := [], laidByText := true, laidKinds := [.sentinel, .sentinel, .sentinel, .sentinel], laidTests := true, laidLooks := .later }
def SoftNothingUptoCardSaid : Prop := Claim7.holds Tryd.pinned (.plain (OpenSpec.upto softNothingSpec)) softNothingUptoCard

/-- THE SECOND FORM's CARD OF 'lodgelaw11.SoftShifts'. -/
def softShiftsUptoCard : Claim7 := { stood := { row := softShiftsUptoRow, standIns := [], harness := (true, "bea30a4843f9f40c63a0d020fc6ebdfbdc292b6813cc77f5df40f4536a233494"), looks := true }, kinds := [], alts := [], laidByText := true, laidKinds := [.sentinel, .sentinel, .sentinel, .sentinel], laidTests := true, laidLooks := .later }
def SoftShiftsUptoCardSaid : Prop := Claim7.holds Tryd.pinned (.plain (OpenSpec.upto softShiftsSpec)) softShiftsUptoCard

/-- THE SECOND FORM's CARD OF 'lodgelaw11.SoftGathers'. -/
def softGathersUptoCard : Claim7 := { stood := { row := softGathersUptoRow, standIns := [], harness := (true, "bea30a4843f9f40c63a0d020fc6ebdfbdc292b6813cc77f5df40f4536a233494"), looks := true }, kinds := [], alts := [], laidByText := true, laidKinds := [.sentinel, .sentinel, .sentinel, .sentinel], laidTests := true, laidLooks := .later }
def SoftGathersUptoCardSaid : Prop := Claim7.holds Tryd.pinned (.plain (OpenSpec.upto softGathersSpec)) softGathersUptoCard

/-- THE SECOND FORM's CARD OF 'lodgelaw11.SoftSays'. -/
def softSaysUptoCard : Claim7 := { stood := { row := softSaysUptoRow, standIns := [], harness := (true, "bea30a4843f9f40c63a0d020fc6ebdfbdc292b6813cc77f5df40f4536a233494"), looks := true }, kinds := [], alts := [], laidByText := true, laidKinds := [.sentinel, .sentinel, .sentinel, .sentinel, .sentinel, .sentinel, .sentinel, .sentinel, .sentinel, .sentinel, .sentinel, .sentinel, .sentinel, .sentinel, .sentinel, .sentinel, .sentinel, .sentinel, .sentinel, .sentinel, .sentinel], laidTests := true, laidLooks := .later }
def SoftSaysUptoCardSaid : Prop := Claim7.holds Tryd.pinned (.plain (OpenSpec.upto softSaysSpec)) softSaysUptoCard

/-- THE SECOND FORM's CARD OF 'lodgelaw11.SoftRows'. -/
def softRowsUptoCard : Claim7 := { stood := { row := softRowsUptoRow, standIns := [], harness := (true, "bea30a4843f9f40c63a0d020fc6ebdfbdc292b6813cc77f5df40f4536a233494"), looks := true }, kinds := [], alts := [], laidByText := true, laidKinds := [.sentinel, .sentinel, .sentinel, .sentinel], laidTests := true, laidLooks := .later }
def SoftRowsUptoCardSaid : Prop := Claim7.holds Tryd.pinned (.plain (OpenSpec.upto softRowsSpec)) softRowsUptoCard
end Rows
end Go.Proofs.YtohkmbpdjigjdaaDoor
