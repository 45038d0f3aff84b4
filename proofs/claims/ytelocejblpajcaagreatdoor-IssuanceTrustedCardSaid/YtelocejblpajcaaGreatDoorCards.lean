/-
  DERIVED. GIVEN WITH THE SEED: THE CARDS: each row of YtelocejblpajcaaGreatDoorRows.lean that lists a variable, with what it lists TIED to the program's text (the seventh form; the later family's looks); each row that meets fmt, with fmt's text TOLD by the authors' own Lean function (tested against real Go, not proved from fmt's source: count such statements apart). THE CARD IS WHAT COUNTS. Prove the row's statement (the work); the ties are given (YtelocejblpajcaaGreatDoorTie.lean); close each card by the builder's one call (the guide's Derived/Test/ToyasCard.lean, 'card_holds'). Laid BY PROGRAM, IN A SANDBOX (cutbox-door.mjs). By AI agents, Wed Nov 11 2026. No macro, syntax, notation, axiom, sorry.
-/
import Derived.Test.YtelocejblpajcaaGreatDoorRows
import GoSem.ClaimSeven
namespace Go.Proofs.YtelocejblpajcaaGreatDoor
namespace Rows

/-- THE TIED CARD OF 'traveldoclaw39.IssuanceMakes'. -/
def issuanceMakesCard : Claim7 := { stood := { row := issuanceMakesRow, standIns := [], harness := (true, "4649b143c25a60d10f37ecb03acd0c040b071b4516537004d60cd2d37f5bacc5"), looks := false }, kinds := [], alts := [], laidByText := true, laidKinds := [.data, .data, .data, .data, .data, .data, .data, .pinned], laidTests := true, laidLooks := .later }
def IssuanceMakesCardSaid : Prop := Claim7.holds Tryz.pinned (.plain (OpenSpec.ofChange issuanceMakesSpec)) issuanceMakesCard

/-- THE TIED CARD OF 'traveldoclaw39.IssuanceBegins'. -/
def issuanceBeginsCard : Claim7 := { stood := { row := issuanceBeginsRow, standIns := [], harness := (true, "4649b143c25a60d10f37ecb03acd0c040b071b4516537004d60cd2d37f5bacc5"), looks := false }, kinds := [], alts := [], laidByText := true, laidKinds := [.data, .data, .data, .data, .data, .data, .pinned], laidTests := true, laidLooks := .later }
def IssuanceBeginsCardSaid : Prop := Claim7.holds Tryz.pinned (.plain (OpenSpec.ofChange issuanceBeginsSpec)) issuanceBeginsCard

/-- THE TIED CARD OF 'traveldoclaw39.IssuanceTrusted'. -/
def issuanceTrustedCard : Claim7 := { stood := { row := issuanceTrustedRow, standIns := [], harness := (true, "4649b143c25a60d10f37ecb03acd0c040b071b4516537004d60cd2d37f5bacc5"), looks := false }, kinds := [], alts := [], laidByText := true, laidKinds := [.data, .data, .data, .data, .data, .data, .pinned], laidTests := true, laidLooks := .later }
def IssuanceTrustedCardSaid : Prop := Claim7.holds Tryz.pinned (.plain (OpenSpec.ofChange issuanceTrustedSpec)) issuanceTrustedCard

/-- THE SECOND FORM's CARD OF 'traveldoclaw39.IssuanceMakes'. -/
def issuanceMakesUptoCard : Claim7 := { stood := { row := issuanceMakesUptoRow, standIns := [], harness := (true, "4649b143c25a60d10f37ecb03acd0c040b071b4516537004d60cd2d37f5bacc5"), looks := false }, kinds := [], alts := [], laidByText := true, laidKinds := [.data, .data, .data, .data, .data, .data, .data, .pinned], laidTests := true, laidLooks := .later }
def IssuanceMakesUptoCardSaid : Prop := Claim7.holds Tryz.pinned (.plain (OpenSpec.upto issuanceMakesSpec)) issuanceMakesUptoCard

/-- THE SECOND FORM's CARD OF 'traveldoclaw39.IssuanceBegins'. -/
def issuanceBeginsUptoCard : Claim7 := { stood := { row := issuanceBeginsUptoRow, standIns := [], harness := (true, "4649b143c25a60d10f37ecb03acd0c040b071b4516537004d60cd2d37f5bacc5"), looks := false }, kinds := [], alts := [], laidByText := true, laidKinds := [.data, .data, .data, .data, .data, .data, .pinned], laidTests := true, laidLooks := .later }
def IssuanceBeginsUptoCardSaid : Prop := Claim7.holds Tryz.pinned (.plain (OpenSpec.upto issuanceBeginsSpec)) issuanceBeginsUptoCard

/-- THE SECOND FORM's CARD OF 'traveldoclaw39.IssuanceTrusted'. -/
def issuanceTrustedUptoCard : Claim7 := { stood := { row := issuanceTrustedUptoRow, standIns := [], harness := (true, "4649b143c25a60d10f37ecb03acd0c040b071b4516537004d60cd2d37f5bacc5"), looks := false }, kinds := [], alts := [], laidByText := true, laidKinds := [.data, .data, .data, .data, .data, .data, .pinned], laidTests := true, laidLooks := .later }
def IssuanceTrustedUptoCardSaid : Prop := Claim7.holds Tryz.pinned (.plain (OpenSpec.upto issuanceTrustedSpec)) issuanceTrustedUptoCard
end Rows
end Go.Proofs.YtelocejblpajcaaGreatDoor
