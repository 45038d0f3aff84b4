/-
  DERIVED. GIVEN WITH THE SEED: THE CARDS: each row of YtijghnaidinliaaGreatDoorRows.lean that lists a variable, with what it lists TIED to the program's text (the seventh form; the later family's looks); each row that meets fmt, with fmt's text TOLD by the authors' own Lean function (tested against real Go, not proved from fmt's source: count such statements apart). THE CARD IS WHAT COUNTS. Prove the row's statement (the work); the ties are given (YtijghnaidinliaaGreatDoorTie.lean); close each card by the builder's one call (the guide's Derived/Test/ToyasCard.lean, 'card_holds'). Laid BY PROGRAM, IN A SANDBOX (cutbox-door.mjs). By AI agents, Wed Nov 11 2026. No macro, syntax, notation, axiom, sorry.
-/
import Derived.Test.YtijghnaidinliaaGreatDoorRows
import GoSem.ClaimSeven
namespace Go.Proofs.YtijghnaidinliaaGreatDoor
namespace Rows

/-- THE TIED CARD OF 'traveldoclaw28.ChipRecords'. -/
def chipRecordsCard : Claim7 := { stood := { row := chipRecordsRow, standIns := [], harness := (true, "b567f953df2d5bb2f0953ca0cb5fad3d743a477fe3e78b89469c965af56e253f"), looks := false }, kinds := [], alts := [], laidByText := true, laidKinds := [.data], laidTests := true, laidLooks := .later }
def ChipRecordsCardSaid : Prop := Claim7.holds Tryz.pinned (.plain (OpenSpec.ofChange chipRecordsSpec)) chipRecordsCard

/-- THE TIED CARD OF 'traveldoclaw28.ChipNews'. -/
def chipNewsCard : Claim7 := { stood := { row := chipNewsRow, standIns := [], harness := (true, "b567f953df2d5bb2f0953ca0cb5fad3d743a477fe3e78b89469c965af56e253f"), looks := false }, kinds := [], alts := [], laidByText := true, laidKinds := [.data], laidTests := true, laidLooks := .later }
def ChipNewsCardSaid : Prop := Claim7.holds Tryz.pinned (.plain (OpenSpec.ofChange chipNewsSpec)) chipNewsCard

/-- THE SECOND FORM's CARD OF 'traveldoclaw28.ChipRecords'. -/
def chipRecordsUptoCard : Claim7 := { stood := { row := chipRecordsUptoRow, standIns := [], harness := (true, "b567f953df2d5bb2f0953ca0cb5fad3d743a477fe3e78b89469c965af56e253f"), looks := false }, kinds := [], alts := [], laidByText := true, laidKinds := [.data], laidTests := true, laidLooks := .later }
def ChipRecordsUptoCardSaid : Prop := Claim7.holds Tryz.pinned (.plain (OpenSpec.upto chipRecordsSpec)) chipRecordsUptoCard

/-- THE SECOND FORM's CARD OF 'traveldoclaw28.ChipNews'. -/
def chipNewsUptoCard : Claim7 := { stood := { row := chipNewsUptoRow, standIns := [], harness := (true, "b567f953df2d5bb2f0953ca0cb5fad3d743a477fe3e78b89469c965af56e253f"), looks := false }, kinds := [], alts := [], laidByText := true, laidKinds := [.data], laidTests := true, laidLooks := .later }
def ChipNewsUptoCardSaid : Prop := Claim7.holds Tryz.pinned (.plain (OpenSpec.upto chipNewsSpec)) chipNewsUptoCard
end Rows
end Go.Proofs.YtijghnaidinliaaGreatDoor
