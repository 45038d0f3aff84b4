/-
  DERIVED. GIVEN WITH THE SEED: THE CARDS: each row of YtoaogfehdalmdaaGreatDoorRows.lean that lists a variable, with what it lists TIED to the program's text (the seventh form; the later family's looks); each row that meets fmt, with fmt's text TOLD by the authors' own Lean function (tested against real Go, not proved from fmt's source: count such statements apart). THE CARD IS WHAT COUNTS. Prove the row's statement (the work); the ties are given (YtoaogfehdalmdaaGreatDoorTie.lean); close each card by the builder's one call (the guide's Derived/Test/ToyasCard.lean, 'card_holds'). Laid BY PROGRAM, IN A SANDBOX (cutbox-door.mjs). By AI agents, Wed Nov 11 2026. No macro, syntax, notation, axiom, sorry.
-/
import Derived.Test.YtoaogfehdalmdaaGreatDoorRows
import GoSem.ClaimSeven
namespace Go.Proofs.YtoaogfehdalmdaaGreatDoor
namespace Rows

/-- THE TIED CARD OF 'traveldoclaw38.DecisionMade'. -/
def decisionMadeCard : Claim7 := { stood := { row := decisionMadeRow, standIns := [], harness := (true, "62202703355a48e97e34ef17fb94b4a757cc85cfcc5d0797242daff15730aef1"), looks := true }, kinds := [], alts := [], laidByText := true, laidKinds := [.data, .data, .data, .data, .sentinel, .sentinel, .pinned], laidTests := true, laidLooks := .later }
def DecisionMadeCardSaid : Prop := Claim7.holds Tryz.pinned (.plain (OpenSpec.ofChange decisionMadeSpec)) decisionMadeCard

/-- THE TIED CARD OF 'traveldoclaw38.DecisionTexts'. -/
def decisionTextsCard : Claim7 := { stood := { row := decisionTextsRow, standIns := [], harness := (true, "62202703355a48e97e34ef17fb94b4a757cc85cfcc5d0797242daff15730aef1"), looks := true }, kinds := [], alts := [], laidByText := true, laidKinds := [.data, .data, .data, .data, .sentinel, .sentinel, .pinned], laidTests := true, laidLooks := .later }
def DecisionTextsCardSaid : Prop := Claim7.holds Tryz.pinned (.plain (OpenSpec.ofChange decisionTextsSpec)) decisionTextsCard

/-- THE TIED CARD OF 'traveldoclaw38.DecisionMinimal'. -/
def decisionMinimalCard : Claim7 := { stood := { row := decisionMinimalRow, standIns := [], harness := (true, "62202703355a48e97e34ef17fb94b4a757cc85cfcc5d0797242daff15730aef1"), looks := true }, kinds := [], alts := [], laidByText := true, laidKinds := [.data, .data, .data, .data, .sentinel, .sentinel, .pinned], laidTests := true, laidLooks := .later }
def DecisionMinimalCardSaid : Prop := Claim7.holds Tryz.pinned (.plain (OpenSpec.ofChange decisionMinimalSpec)) decisionMinimalCard

/-- THE SECOND FORM's CARD OF 'traveldoclaw38.DecisionMade'. -/
def decisionMadeUptoCard : Claim7 := { stood := { row := decisionMadeUptoRow, standIns := [], harness := (true, "62202703355a48e97e34ef17fb94b4a757cc85cfcc5d0797242daff15730aef1"), looks := true }, kinds := [], alts := [], laidByText := true, laidKinds := [.data, .data, .data, .data, .sentinel, .sentinel, .pinned], laidTests := true, laidLooks := .later }
def DecisionMadeUptoCardSaid : Prop := Claim7.holds Tryz.pinned (.plain (OpenSpec.upto decisionMadeSpec)) decisionMadeUptoCard

/-- THE SECOND FORM's CARD OF 'traveldoclaw38.DecisionTexts'. -/
def decisionTextsUptoCard : Claim7 := { stood := { row := decisionTextsUptoRow, standIns := [], harness := (true, "62202703355a48e97e34ef17fb94b4a757cc85cfcc5d0797242daff15730aef1"), looks := true }, kinds := [], alts := [], laidByText := true, laidKinds := [.data, .data, .data, .data, .sentinel, .sentinel, .pinned], laidTests := true, laidLooks := .later }
def DecisionTextsUptoCardSaid : Prop := Claim7.holds Tryz.pinned (.plain (OpenSpec.upto decisionTextsSpec)) decisionTextsUptoCard

/-- THE SECOND FORM's CARD OF 'traveldoclaw38.DecisionMinimal'. -/
def decisionMinimalUptoCard : Claim7 := { stood := { row := decisionMinimalUptoRow, standIns := [], harness := (true, "62202703355a48e97e34ef17fb94b4a757cc85cfcc5d0797242daff15730aef1"), looks := true }, kinds := [], alts := [], laidByText := true, laidKinds := [.data, .data, .data, .data, .sentinel, .sentinel, .pinned], laidTests := true, laidLooks := .later }
def DecisionMinimalUptoCardSaid : Prop := Claim7.holds Tryz.pinned (.plain (OpenSpec.upto decisionMinimalSpec)) decisionMinimalUptoCard
end Rows
end Go.Proofs.YtoaogfehdalmdaaGreatDoor
