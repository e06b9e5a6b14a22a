/-
  DERIVED. GIVEN WITH THE SEED: THE CARDS: each row of YtnbpgehpjhifgaaDoorRows.lean that lists a variable, with what it lists TIED to the program's text (the seventh form; the later family's looks); each row that meets fmt, with fmt's text TOLD by the authors' own Lean function (tested against real Go, not proved from fmt's source: count such statements apart). THE CARD IS WHAT COUNTS. Prove the row's statement (the work); the ties are given (YtnbpgehpjhifgaaDoorTie.lean); close each card by the builder's one call (the guide's Derived/Test/ToyasCard.lean, 'card_holds'). Laid BY PROGRAM, IN A SANDBOX (cutbox-door.mjs). By AI agents, Wed Nov 11 2026. No macro, syntax, notation, axiom, sorry.
-/
import Derived.Test.YtnbpgehpjhifgaaDoorRows
import GoSem.ClaimSeven
namespace Go.Proofs.YtnbpgehpjhifgaaDoor
namespace Rows

/-- THE TIED CARD OF 'lodgelaw13.ArenaFits'. -/
def arenaFitsCard : Claim7 := { stood := { row := arenaFitsRow, standIns := [], harness := (true, "f9e2a0bc42adbc68acf1651d5d7e76f1f903f7323bb19f41f0bdda912119048a"), looks := true }, kinds := [], alts := [], laidByText := true, laidKinds := [.sentinel, .sentinel, .sentinel, .sentinel, .sentinel, .sentinel, .sentinel, .sentinel, .sentinel, .sentinel, .sentinel, .sentinel, .sentinel, .sentinel, .sentinel, .sentinel, .sentinel, .sentinel, .sentinel, .sentinel, .sentinel], laidTests := true, laidLooks := .later }
def ArenaFitsCardSaid : Prop := Claim7.holds Tryd.pinned (.plain (OpenSpec.ofChange arenaFitsSpec)) arenaFitsCard

/-- THE TIED CARD OF 'lodgelaw13.ArenaParts'. -/
def arenaPartsCard : Claim7 := { stood := { row := arenaPartsRow, standIns := [], harness := (true, "f9e2a0bc42adbc68acf1651d5d7e76f1f903f7323bb19f41f0bdda912119048a"), looks := true }, kinds := [], alts := [], laidByText := true, laidKinds := [.sentinel, .sentinel, .sentinel, .sentinel, .sentinel, .sentinel, .sentinel, .sentinel, .sentinel, .sentinel, .sentinel, .sentinel, .sentinel, .sentinel, .sentinel, .sentinel, .sentinel, .sentinel, .sentinel, .sentinel, .sentinel], laidTests := true, laidLooks := .later }
def ArenaPartsCardSaid : Prop := Claim7.holds Tryd.pinned (.plain (OpenSpec.ofChange arenaPartsSpec)) arenaPartsCard

/-- THE TIED CARD OF 'lodgelaw13.ArenaApart'. -/
def arenaApartCard : Claim7 := { stood := { row := arenaApartRow, standIns := [], harness := (true, "f9e2a0bc42adbc68acf1651d5d7e76f1f903f7323bb19f41f0bdda912119048a"), looks := true }, kinds := [], alts := [], laidByText := true, laidKinds := [.sentinel, .sentinel, .sentinel], laidTests := true, laidLooks := .later }
def ArenaApartCardSaid : Prop := Claim7.holds Tryd.pinned (.plain (OpenSpec.ofChange arenaApartSpec)) arenaApartCard

/-- THE TIED CARD OF 'lodgelaw13.ArenaScrubs'. -/
def arenaScrubsCard : Claim7 := { stood := { row := arenaScrubsRow, standIns := [], harness := (true, "f9e2a0bc42adbc68acf1651d5d7e76f1f903f7323bb19f41f0bdda912119048a"), looks := true }, kinds := [], alts := [], laidByText := true, laidKinds := [.sentinel, .sentinel, .sentinel], laidTests := true, laidLooks := .later }
def ArenaScrubsCardSaid : Prop := Claim7.holds Tryd.pinned (.plain (OpenSpec.ofChange arenaScrubsSpec)) arenaScrubsCard

/-- THE SECOND FORM's CARD OF 'lodgelaw13.ArenaFits'. -/
def arenaFitsUptoCard : Claim7 := { stood := { row := arenaFitsUptoRow, standIns := [], harness := (true, "f9e2a0bc42adbc68acf1651d5d7e76f1f903f7323bb19f41f0bdda912119048a"), looks := true }, kinds := [], alts := [], laidByText := true, laidKinds := [.sentinel, .sentinel, .sentinel, .sentinel, .sentinel, .sentinel, .sentinel, .sentinel, .sentinel, .sentinel, .sentinel, .sentinel, .sentinel, .sentinel, .sentinel, .sentinel, .sentinel, .sentinel, .sentinel, .sentinel, .sentinel], laidTests := true, laidLooks := .later }
def ArenaFitsUptoCardSaid : Prop := Claim7.holds Tryd.pinned (.plain (OpenSpec.upto arenaFitsSpec)) arenaFitsUptoCard

/-- THE SECOND FORM's CARD OF 'lodgelaw13.ArenaParts'. -/
def arenaPartsUptoCard : Claim7 := { stood := { row := arenaPartsUptoRow, standIns := [], harness := (true, "f9e2a0bc42adbc68acf1651d5d7e76f1f903f7323bb19f41f0bdda912119048a"), looks := true }, kinds := [], alts := [], laidByText := true, laidKinds := [.sentinel, .sentinel, .sentinel, .sentinel, .sentinel, .sentinel, .sentinel, .sentinel, .sentinel, .sentinel, .sentinel, .sentinel, .sentinel, .sentinel, .sentinel, .sentinel, .sentinel, .sentinel, .sentinel, .sentinel, .sentinel], laidTests := true, laidLooks := .later }
def ArenaPartsUptoCardSaid : Prop := Claim7.holds Tryd.pinned (.plain (OpenSpec.upto arenaPartsSpec)) arenaPartsUptoCard

/-- THE SECOND FORM's CARD OF 'lodgelaw13.ArenaApart'. -/
def arenaApartUptoCard : Claim7 := { stood := { row := arenaApartUptoRow, standIns := [], harness := (true, "f9e2a0bc42adbc68acf1651d5d7e76f1f903f7323bb19f41f0bdda912119048a"), looks := true }, kinds := [], alts := [], laidByText := true, laidKinds := [.sentinel, .sentinel, .sentinel], laidTests := true, laidLooks := .later }
def ArenaApartUptoCardSaid : Prop := Claim7.holds Tryd.pinned (.plain (OpenSpec.upto arenaApartSpec)) arenaApartUptoCard

/-- THE SECOND FORM's CARD OF 'lodgelaw13.ArenaScrubs'. -/
def arenaScrubsUptoCard : Claim7 := { stood := { row := arenaScrubsUptoRow, standIns := [], harness := (true, "f9e2a0bc42adbc68acf1651d5d7e76f1f903f7323bb19f41f0bdda912119048a"), looks := true }, kinds := [], alts := [], laidByText := true, laidKinds := [.sentinel, .sentinel, .sentinel], laidTests := true, laidLooks := .later }
def ArenaScrubsUptoCardSaid : Prop := Claim7.holds Tryd.pinned (.plain (OpenSpec.upto arenaScrubsSpec)) arenaScrubsUptoCard
end Rows
end Go.Proofs.YtnbpgehpjhifgaaDoor
