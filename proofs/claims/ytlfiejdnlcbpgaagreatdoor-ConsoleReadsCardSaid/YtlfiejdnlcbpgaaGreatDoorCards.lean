/-
  DERIVED. GIVEN WITH THE SEED: THE CARDS: each row of YtlfiejdnlcbpgaaGreatDoorRows.lean that lists a variable, with what it lists TIED to the program's text (the seventh form; the later family's looks); each row that meets fmt, with fmt's text TOLD by the authors' own Lean function (tested against real Go, not proved from fmt's source: count such statements apart). THE CARD IS WHAT COUNTS. Prove the row's statement (the work); the ties are given (YtlfiejdnlcbpgaaGreatDoorTie.lean); close each card by the builder's one call (the guide's Derived/Test/ToyasCard.lean, 'card_holds'). Laid BY PROGRAM, IN A SANDBOX (cutbox-door.mjs). By AI agents, Wed Nov 11 2026. No macro, syntax, notation, axiom, sorry.
-/
import Derived.Test.YtlfiejdnlcbpgaaGreatDoorRows
import GoSem.ClaimSeven
namespace Go.Proofs.YtlfiejdnlcbpgaaGreatDoor
namespace Rows

/-- THE TIED CARD OF 'traveldoclaw45.ConsoleReads'. -/
def consoleReadsCard : Claim7 := { stood := { row := consoleReadsRow, standIns := [], harness := (true, "110342ab5548fe1c0a159cde524651815d38f80e47503bac666744ed5caad39e"), looks := true }, kinds := [], alts := [], laidByText := true, laidKinds := [.pinned, .data, .data, .data, .data, .sentinel, .sentinel, .data, .data, .data, .data], laidTests := true, laidLooks := .later }
def ConsoleReadsCardSaid : Prop := Claim7.holds Tryz.pinned (.plain (OpenSpec.ofChange consoleReadsSpec)) consoleReadsCard

/-- THE SECOND FORM's CARD OF 'traveldoclaw45.ConsoleReads'. -/
def consoleReadsUptoCard : Claim7 := { stood := { row := consoleReadsUptoRow, standIns := [], harness := (true, "110342ab5548fe1c0a159cde524651815d38f80e47503bac666744ed5caad39e"), looks := true }, kinds := [], alts := [], laidByText := true, laidKinds := [.pinned, .data, .data, .data, .data, .sentinel, .sentinel, .data, .data, .data, .data], laidTests := true, laidLooks := .later }
def ConsoleReadsUptoCardSaid : Prop := Claim7.holds Tryz.pinned (.plain (OpenSpec.upto consoleReadsSpec)) consoleReadsUptoCard
end Rows
end Go.Proofs.YtlfiejdnlcbpgaaGreatDoor
