/-
  DERIVED. GIVEN WITH THE SEED: THE CARDS: each row of YtnblnlanicpagaaDoorRows.lean that lists a variable, with what it lists TIED to the program's text (the seventh form; the later family's looks); each row that meets fmt, with fmt's text TOLD by the authors' own Lean function (tested against real Go, not proved from fmt's source: count such statements apart). THE CARD IS WHAT COUNTS. Prove the row's statement (the work); the ties are given (YtnblnlanicpagaaDoorTie.lean); close each card by the builder's one call (the guide's Derived/Test/ToyasCard.lean, 'card_holds'). Laid BY PROGRAM, IN A SANDBOX (cutbox-door.mjs). By AI agents, Wed Nov 11 2026. No macro, syntax, notation, axiom, sorry.
-/
import Derived.Test.YtnblnlanicpagaaDoorRows
import GoSem.ClaimSeven
namespace Go.Proofs.YtnblnlanicpagaaDoor
namespace Rows

/-- THE TIED CARD OF 'lodgelaw12.OpResults'. -/
def opResultsCard : Claim7 := { stood := { row := opResultsRow, standIns := [], harness := (true, "d83aff6b2fd0c9680f1e834ffd81652be49cc5c3fd185412bc634e31e38163ef"), looks := true }, kinds := [], alts := [], laidByText := true, laidKinds := [.sentinel, .sentinel, .sentinel, .sentinel, .sentinel, .sentinel, .sentinel, .sentinel, .sentinel, .sentinel, .sentinel, .sentinel, .sentinel, .sentinel, .sentinel, .sentinel, .sentinel, .sentinel, .sentinel, .sentinel, .sentinel], laidTests := true, laidLooks := .later }
def OpResultsCardSaid : Prop := Claim7.holds Tryd.pinned (.plain (OpenSpec.ofChange opResultsSpec)) opResultsCard

/-- THE TIED CARD OF 'lodgelaw12.OpUnits'. -/
def opUnitsCard : Claim7 := { stood := { row := opUnitsRow, standIns := [], harness := (true, "d83aff6b2fd0c9680f1e834ffd81652be49cc5c3fd185412bc634e31e38163ef"), looks := true }, kinds := [], alts := [], laidByText := true, laidKinds := [.sentinel, .sentinel, .sentinel, .sentinel], laidTests := true, laidLooks := .later }
def OpUnitsCardSaid : Prop := Claim7.holds Tryd.pinned (.plain (OpenSpec.ofChange opUnitsSpec)) opUnitsCard

/-- THE TIED CARD OF 'lodgelaw12.OpNames'. -/
def opNamesCard : Claim7 := { stood := { row := opNamesRow, standIns := [], harness := (true, "d83aff6b2fd0c9680f1e834ffd81652be49cc5c3fd185412bc634e31e38163ef"), looks := true }, kinds := [], alts := [], laidByText := true, laidKinds := [.sentinel, .sentinel, .sentinel, .sentinel], laidTests := true, laidLooks := .later }
def OpNamesCardSaid : Prop := Claim7.holds Tryd.pinned (.plain (OpenSpec.ofChange opNamesSpec)) opNamesCard

/-- THE TIED CARD OF 'lodgelaw12.OpShapes'. -/
def opShapesCard : Claim7 := { stood := { row := opShapesRow, standIns := [], harness := (true, "d83aff6b2fd0c9680f1e834ffd81652be49cc5c3fd185412bc634e31e38163ef"), looks := true }, kinds := [], alts := [], laidByText := true, laidKinds := [.sentinel, .sentinel, .sentinel, .sentinel], laidTests := true, laidLooks := .later }
def OpShapesCardSaid : Prop := Claim7.holds Tryd.pinned (.plain (OpenSpec.ofChange opShapesSpec)) opShapesCard

/-- THE TIED CARD OF 'lodgelaw12.OpMixes'. -/
def opMixesCard : Claim7 := { stood := { row := opMixesRow, standIns := [], harness := (true, "d83aff6b2fd0c9680f1e834ffd81652be49cc5c3fd185412bc634e31e38163ef"), looks := true }, kinds := [], alts := [], laidByText := true, laidKinds := [.sentinel, .sentinel, .sentinel, .sentinel], laidTests := true, laidLooks := .later }
def OpMixesCardSaid : Prop := Claim7.holds Tryd.pinned (.plain (OpenSpec.ofChange opMixesSpec)) opMixesCard

/-- THE TIED CARD OF 'lodgelaw12.OpElements'. -/
def opElementsCard : Claim7 := { stood := { row := opElementsRow, standIns := [], harness := (true, "d83aff6b2fd0c9680f1e834ffd81652be49cc5c3fd185412bc634e31e38163ef"), looks := true }, kinds := [], alts := [], laidByText := true, laidKinds := [.sentinel, .sentinel, .sentinel, .sentinel], laidTests := true, laidLooks := .later }
def OpElementsCardSaid : Prop := Claim7.holds Tryd.pinned (.plain (OpenSpec.ofChange opElementsSpec)) opElementsCard

/-- THE SECOND FORM's CARD OF 'lodgelaw12.OpResults'. -/
def opResultsUptoCard : Claim7 := { stood := { row := opResultsUptoRow, standIns := [], harness := (true, "d83aff6b2fd0c9680f1e834ffd81652be49cc5c3fd185412bc634e31e38163ef"), looks := true }, kinds := [], alts := [], laidByText := true, laidKinds := [.sentinel, .sentinel, .sentinel, .sentinel, .sentinel, .sentinel, .sentinel, .sentinel, .sentinel, .sentinel, .sentinel, .sentinel, .sentinel, .sentinel, .sentinel, .sentinel, .sentinel, .sentinel, .sentinel, .sentinel, .sentinel], laidTests := true, laidLooks := .later }
def OpResultsUptoCardSaid : Prop := Claim7.holds Tryd.pinned (.plain (OpenSpec.upto opResultsSpec)) opResultsUptoCard

/-- THE SECOND FORM's CARD OF 'lodgelaw12.OpUnits'. -/
def opUnitsUptoCard : Claim7 := { stood := { row := opUnitsUptoRow, standIns := [], harness := (true, "d83aff6b2fd0c9680f1e834ffd81652be49cc5c3fd185412bc634e31e38163ef"), looks := true }, kinds := [], alts := [], laidByText := true, laidKinds := [.sentinel, .sentinel, .sentinel, .sentinel], laidTests := true, laidLooks := .later }
def OpUnitsUptoCardSaid : Prop := Claim7.holds Tryd.pinned (.plain (OpenSpec.upto opUnitsSpec)) opUnitsUptoCard

/-- THE SECOND FORM's CARD OF 'lodgelaw12.OpNames'. -/
def opNamesUptoCard : Claim7 := { stood := { row := opNamesUptoRow, standIns := [], harness := (true, "d83aff6b2fd0c9680f1e834ffd81652be49cc5c3fd185412bc634e31e38163ef"), looks := true }, kinds := [], alts := [], laidByText := true, laidKinds := [.sentinel, .sentinel, .sentinel, .sentinel], laidTests := true, laidLooks := .later }
def OpNamesUptoCardSaid : Prop := Claim7.holds Tryd.pinned (.plain (OpenSpec.upto opNamesSpec)) opNamesUptoCard

/-- THE SECOND FORM's CARD OF 'lodgelaw12.OpShapes'. -/
def opShapesUptoCard : Claim7 := { stood := { row := opShapesUptoRow, standIns := [], harness := (true, "d83aff6b2fd0c9680f1e834ffd81652be49cc5c3fd185412bc634e31e38163ef"), looks := true }, kinds := [], alts := [], laidByText := true, laidKinds := [.sentinel, .sentinel, .sentinel, .sentinel], laidTests := true, laidLooks := .later }
def OpShapesUptoCardSaid : Prop := Claim7.holds Tryd.pinned (.plain (OpenSpec.upto opShapesSpec)) opShapesUptoCard

/-- THE SECOND FORM's CARD OF 'lodgelaw12.OpMixes'. -/
def opMixesUptoCard : Claim7 := { stood := { row := opMixesUptoRow, standIns := [], harness := (true, "d83aff6b2fd0c9680f1e834ffd81652be49cc5c3fd185412bc634e31e38163ef"), looks := true }, kinds := [], alts := [], laidByText := true, laidKinds := [.sentinel, .sentinel, .sentinel, .sentinel], laidTests := true, laidLooks := .later }
def OpMixesUptoCardSaid : Prop := Claim7.holds Tryd.pinned (.plain (OpenSpec.upto opMixesSpec)) opMixesUptoCard

/-- THE SECOND FORM's CARD OF 'lodgelaw12.OpElements'. -/
def opElementsUptoCard : Claim7 := { stood := { row := opElementsUptoRow, standIns := [], harness := (true, "d83aff6b2fd0c9680f1e834ffd81652be49cc5c3fd185412bc634e31e38163ef"), looks := true }, kinds := [], alts := [], laidByText := true, laidKinds := [.sentinel, .sentinel, .sentinel, .sentinel], laidTests := true, laidLooks := .later }
def OpElementsUptoCardSaid : Prop := Claim7.holds Tryd.pinned (.plain (OpenSpec.upto opElementsSpec)) opElementsUptoCard
end Rows
end Go.Proofs.YtnblnlanicpagaaDoor
