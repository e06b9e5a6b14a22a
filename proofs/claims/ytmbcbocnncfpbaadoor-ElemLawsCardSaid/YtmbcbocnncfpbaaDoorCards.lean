/-
  DERIVED. GIVEN WITH THE SEED: THE CARDS: each row of YtmbcbocnncfpbaaDoorRows.lean that lists a variable, with what it lists TIED to the program's text (the seventh form; the later family's looks); each row that meets fmt, with fmt's text TOLD by the authors' own Lean function (tested against real Go, not proved from fmt's source: count such statements apart). THE CARD IS WHAT COUNTS. Prove the row's statement (the work); the ties are given (YtmbcbocnncfpbaaDoorTie.lean); close each card by the builder's one call (the guide's Derived/Test/ToyasCard.lean, 'card_holds'). Laid BY PROGRAM, IN A SANDBOX (cutbox-door.mjs). By AI agents, Wed Nov 11 2026. No macro, syntax, notation, axiom, sorry.
-/
import Derived.Test.YtmbcbocnncfpbaaDoorRows
import GoSem.ClaimSeven
namespace Go.Proofs.YtmbcbocnncfpbaaDoor
namespace Rows

/-- THE TIED CARD OF 'lodgelaw7.ElemResults'. -/
def elemResultsCard : Claim7 := { stood := { row := elemResultsRow, standIns := [], harness := (true, "9b8f525bdd1dc5082a22aa0edddb2f4ffd5e7a365cbd11104a53962db5c2f57d"), looks := true }, kinds := [], alts := [], laidByText := true, laidKinds := [.sentinel, .sentinel, .sentinel, .sentinel, .sentinel, .sentinel, .sentinel, .sentinel, .sentinel, .sentinel, .sentinel, .sentinel, .sentinel, .sentinel, .sentinel, .sentinel, .sentinel, .sentinel, .sentinel, .sentinel, .sentinel], laidTests := true, laidLooks := .later }
def ElemResultsCardSaid : Prop := Claim7.holds Tryd.pinned (.plain (OpenSpec.ofChange elemResultsSpec)) elemResultsCard

/-- THE TIED CARD OF 'lodgelaw7.ElemEdges'. -/
def elemEdgesCard : Claim7 := { stood := { row := elemEdgesRow, standIns := [], harness := (true, "9b8f525bdd1dc5082a22aa0edddb2f4ffd5e7a365cbd11104a53962db5c2f57d"), looks := true }, kinds := [], alts := [], laidByText := true, laidKinds := [.sentinel, .sentinel, .sentinel, .sentinel], laidTests := true, laidLooks := .later }
def ElemEdgesCardSaid : Prop := Claim7.holds Tryd.pinned (.plain (OpenSpec.ofChange elemEdgesSpec)) elemEdgesCard

/-- THE TIED CARD OF 'lodgelaw7.ElemSays'. -/
def elemSaysCard : Claim7 := { stood := { row := elemSaysRow, standIns := [], harness := (true, "9b8f525bdd1dc5082a22aa0edddb2f4ffd5e7a365cbd11104a53962db5c2f57d"), looks := true }, kinds := [], alts := [], laidByText := true, laidKinds := [.sentinel, .sentinel, .sentinel, .sentinel, .sentinel, .sentinel, .sentinel, .sentinel, .sentinel, .sentinel, .sentinel, .sentinel, .sentinel, .sentinel, .sentinel, .sentinel, .sentinel, .sentinel, .sentinel, .sentinel, .sentinel], laidTests := true, laidLooks := .later }
def ElemSaysCardSaid : Prop := Claim7.holds Tryd.pinned (.plain (OpenSpec.ofChange elemSaysSpec)) elemSaysCard

/-- THE TIED CARD OF 'lodgelaw7.ElemValues'. -/
def elemValuesCard : Claim7 := { stood := { row := elemValuesRow, standIns := [], harness := (true, "9b8f525bdd1dc5082a22aa0edddb2f4ffd5e7a365cbd11104a53962db5c2f57d"), looks := true }, kinds := [], alts := [], laidByText := true, laidKinds := [.sentinel, .sentinel, .sentinel, .sentinel], laidTests := true, laidLooks := .later }
def ElemValuesCardSaid : Prop := Claim7.holds Tryd.pinned (.plain (OpenSpec.ofChange elemValuesSpec)) elemValuesCard

/-- THE TIED CARD OF 'lodgelaw7.ElemScales'. -/
def elemScalesCard : Claim7 := { stood := { row := elemScalesRow, standIns := [], harness := (true, "9b8f525bdd1dc5082a22aa0edddb2f4ffd5e7a365cbd11104a53962db5c2f57d"), looks := true }, kinds := [], alts := [], laidByText := true, laidKinds := [.sentinel, .sentinel, .sentinel, .sentinel], laidTests := true, laidLooks := .later }
def ElemScalesCardSaid : Prop := Claim7.holds Tryd.pinned (.plain (OpenSpec.ofChange elemScalesSpec)) elemScalesCard

/-- THE TIED CARD OF 'lodgelaw7.ElemLaws'. -/
def elemLawsCard : Claim7 := { stood := { row := elemLawsRow, standIns := [], harness := (true, "9b8f525bdd1dc5082a22aa0edddb2f4ffd5e7a365cbd11104a53962db5c2f57d"), looks := true }, kinds := [], alts := [], laidByText := true, laidKinds := [.sentinel, .sentinel, .sentinel, .sentinel], laidTests := true, laidLooks := .later }
def ElemLawsCardSaid : Prop := Claim7.holds Tryd.pinned (.plain (OpenSpec.ofChange elemLawsSpec)) elemLawsCard

/-- THE SECOND FORM's CARD OF 'lodgelaw7.ElemResults'. -/
def elemResultsUptoCard : Claim7 := { stood := { row := elemResultsUptoRow, standIns := [], harness := (true, "9b8f525bdd1dc5082a22aa0edddb2f4ffd5e7a365cbd11104a53962db5c2f57d"), looks := true }, kinds := [], alts := [], laidByText := true, laidKinds := [.sentinel, .sentinel, .sentinel, .sentinel, .sentinel, .sentinel, .sentinel, .sentinel, .sentinel, .sentinel, .sentinel, .sentinel, .sentinel, .sentinel, .sentinel, .sentinel, .sentinel, .sentinel, .sentinel, .sentinel, .sentinel], laidTests := true, laidLooks := .later }
def ElemResultsUptoCardSaid : Prop := Claim7.holds Tryd.pinned (.plain (OpenSpec.upto elemResultsSpec)) elemResultsUptoCard

/-- THE SECOND FORM's CARD OF 'lodgelaw7.ElemEdges'. -/
def elemEdgesUptoCard : Claim7 := { stood := { row := elemEdgesUptoRow, standIns := [], harness := (true, "9b8f525bdd1dc5082a22aa0edddb2f4ffd5e7a365cbd11104a53962db5c2f57d"), looks := true }, kinds := [], alts := [], laidByText := true, laidKinds := [.sentinel, .sentinel, .sentinel, .sentinel], laidTests := true, laidLooks := .later }
def ElemEdgesUptoCardSaid : Prop := Claim7.holds Tryd.pinned (.plain (OpenSpec.upto elemEdgesSpec)) elemEdgesUptoCard

/-- THE SECOND FORM's CARD OF 'lodgelaw7.ElemSays'. -/
def elemSaysUptoCard : Claim7 := { stood := { row := elemSaysUptoRow, standIns := [], harness := (true, "9b8f525bdd1dc5082a22aa0edddb2f4ffd5e7a365cbd11104a53962db5c2f57d"), looks := true }, kinds := [], alts := [], laidByText := true, laidKinds := [.sentinel, .sentinel, .sentinel, .sentinel, .sentinel, .sentinel, .sentinel, .sentinel, .sentinel, .sentinel, .sentinel, .sentinel, .sentinel, .sentinel, .sentinel, .sentinel, .sentinel, .sentinel, .sentinel, .sentinel, .sentinel], laidTests := true, laidLooks := .later }
def ElemSaysUptoCardSaid : Prop := Claim7.holds Tryd.pinned (.plain (OpenSpec.upto elemSaysSpec)) elemSaysUptoCard

/-- THE SECOND FORM's CARD OF 'lodgelaw7.ElemValues'. -/
def elemValuesUptoCard : Claim7 := { stood := { row := elemValuesUptoRow, standIns := [], harness := (true, "9b8f525bdd1dc5082a22aa0edddb2f4ffd5e7a365cbd11104a53962db5c2f57d"), looks := true }, kinds := [], alts := [], laidByText := true, laidKinds := [.sentinel, .sentinel, .sentinel, .sentinel], laidTests := true, laidLooks := .later }
def ElemValuesUptoCardSaid : Prop := Claim7.holds Tryd.pinned (.plain (OpenSpec.upto elemValuesSpec)) elemValuesUptoCard

/-- THE SECOND FORM's CARD OF 'lodgelaw7.ElemScales'. -/
def elemScalesUptoCard : Claim7 := { stood := { row := elemScalesUptoRow, standIns := [], harness := (true, "9b8f525bdd1dc5082a22aa0edddb2f4ffd5e7a365cbd11104a53962db5c2f57d"), looks := true }, kinds := [], alts := [], laidByText := true, laidKinds := [.sentinel, .sentinel, .sentinel, .sentinel], laidTests := true, laidLooks := .later }
def ElemScalesUptoCardSaid : Prop := Claim7.holds Tryd.pinned (.plain (OpenSpec.upto elemScalesSpec)) elemScalesUptoCard

/-- THE SECOND FORM's CARD OF 'lodgelaw7.ElemLaws'. -/
def elemLawsUptoCard : Claim7 := { stood := { row := elemLawsUptoRow, standIns := [], harness := (true, "9b8f525bdd1dc5082a22aa0edddb2f4ffd5e7a365cbd11104a53962db5c2f57d"), looks := true }, kinds := [], alts := [], laidByText := true, laidKinds := [.sentinel, .sentinel, .sentinel, .sentinel], laidTests := true, laidLooks := .later }
def ElemLawsUptoCardSaid : Prop := Claim7.holds Tryd.pinned (.plain (OpenSpec.upto elemLawsSpec)) elemLawsUptoCard
end Rows
end Go.Proofs.YtmbcbocnncfpbaaDoor
