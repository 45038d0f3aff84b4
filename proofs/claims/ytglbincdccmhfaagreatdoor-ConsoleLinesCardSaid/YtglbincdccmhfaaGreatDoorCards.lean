/-
  DERIVED. GIVEN WITH THE SEED: THE CARDS: each row of YtglbincdccmhfaaGreatDoorRows.lean that lists a variable, with what it lists TIED to the program's text (the seventh form; the later family's looks); each row that meets fmt, with fmt's text TOLD by the authors' own Lean function (tested against real Go, not proved from fmt's source: count such statements apart). THE CARD IS WHAT COUNTS. Prove the row's statement (the work); the ties are given (YtglbincdccmhfaaGreatDoorTie.lean); close each card by the builder's one call (the guide's Derived/Test/ToyasCard.lean, 'card_holds'). Laid BY PROGRAM, IN A SANDBOX (cutbox-door.mjs). By AI agents, Wed Nov 11 2026. No macro, syntax, notation, axiom, sorry.
-/
import Derived.Test.YtglbincdccmhfaaGreatDoorRows
import GoSem.ClaimSeven
namespace Go.Proofs.YtglbincdccmhfaaGreatDoor
namespace Rows

/-- THE TIED CARD OF 'traveldoclaw45.ConsoleLines'. -/
def consoleLinesCard : Claim7 := { stood := { row := consoleLinesRow, standIns := [], harness := (true, "8f27207e0678853bf4e9b53d24c72db3bead28b1c62dfd1ae613f80642ed1b2c"), looks := true }, kinds := [], alts := [], laidByText := true, laidKinds := [.pinned, .data, .data, .data, .data, .sentinel, .sentinel, .data, .data, .data, .data], laidTests := true, laidLooks := .later }
def ConsoleLinesCardSaid : Prop := Claim7.holds Tryz.pinned (.plain (OpenSpec.ofChange consoleLinesSpec)) consoleLinesCard

/-- THE SECOND FORM's CARD OF 'traveldoclaw45.ConsoleLines'. -/
def consoleLinesUptoCard : Claim7 := { stood := { row := consoleLinesUptoRow, standIns := [], harness := (true, "8f27207e0678853bf4e9b53d24c72db3bead28b1c62dfd1ae613f80642ed1b2c"), looks := true }, kinds := [], alts := [], laidByText := true, laidKinds := [.pinned, .data, .data, .data, .data, .sentinel, .sentinel, .data, .data, .data, .data], laidTests := true, laidLooks := .later }
def ConsoleLinesUptoCardSaid : Prop := Claim7.holds Tryz.pinned (.plain (OpenSpec.upto consoleLinesSpec)) consoleLinesUptoCard
end Rows
end Go.Proofs.YtglbincdccmhfaaGreatDoor
