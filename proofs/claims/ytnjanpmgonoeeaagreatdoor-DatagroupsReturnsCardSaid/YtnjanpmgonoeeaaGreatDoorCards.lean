/-
  DERIVED. GIVEN WITH THE SEED: THE CARDS: each row of YtnjanpmgonoeeaaGreatDoorRows.lean that lists a variable, with what it lists TIED to the program's text (the seventh form; the later family's looks); each row that meets fmt, with fmt's text TOLD by the authors' own Lean function (tested against real Go, not proved from fmt's source: count such statements apart). THE CARD IS WHAT COUNTS. Prove the row's statement (the work); the ties are given (YtnjanpmgonoeeaaGreatDoorTie.lean); close each card by the builder's one call (the guide's Derived/Test/ToyasCard.lean, 'card_holds'). Laid BY PROGRAM, IN A SANDBOX (cutbox-door.mjs). By AI agents, Wed Nov 11 2026. No macro, syntax, notation, axiom, sorry.
-/
import Derived.Test.YtnjanpmgonoeeaaGreatDoorRows
import GoSem.ClaimSeven
namespace Go.Proofs.YtnjanpmgonoeeaaGreatDoor
namespace Rows

/-- THE TIED CARD OF 'traveldoclaw15.DatagroupsForms'. -/
def datagroupsFormsCard : Claim7 := { stood := { row := datagroupsFormsRow, standIns := [], harness := (true, "6b1fdfa60e1fa96ce116a730c515ae7fe4167f4ccbd8cb79c1413ce5c2813ace"), looks := false }, kinds := [], alts := [], laidByText := true, laidKinds := [.data, .data], laidTests := true, laidLooks := .later }
def DatagroupsFormsCardSaid : Prop := Claim7.holds Tryz.pinned (.plain (OpenSpec.ofChange datagroupsFormsSpec)) datagroupsFormsCard

/-- THE TIED CARD OF 'traveldoclaw15.DatagroupsWrites'. -/
def datagroupsWritesCard : Claim7 := { stood := { row := datagroupsWritesRow, standIns := [], harness := (true, "6b1fdfa60e1fa96ce116a730c515ae7fe4167f4ccbd8cb79c1413ce5c2813ace"), looks := false }, kinds := [], alts := [], laidByText := true, laidKinds := [.data, .data, .data, .data, .data, .pinned], laidTests := true, laidLooks := .later }
def DatagroupsWritesCardSaid : Prop := Claim7.holds Tryz.pinned (.plain (OpenSpec.ofChange datagroupsWritesSpec)) datagroupsWritesCard

/-- THE TIED CARD OF 'traveldoclaw15.DatagroupsOpens'. -/
def datagroupsOpensCard : Claim7 := { stood := { row := datagroupsOpensRow, standIns := [], harness := (true, "6b1fdfa60e1fa96ce116a730c515ae7fe4167f4ccbd8cb79c1413ce5c2813ace"), looks := false }, kinds := [], alts := [], laidByText := true, laidKinds := [.data, .data, .data, .data, .data, .pinned], laidTests := true, laidLooks := .later }
def DatagroupsOpensCardSaid : Prop := Claim7.holds Tryz.pinned (.plain (OpenSpec.ofChange datagroupsOpensSpec)) datagroupsOpensCard

/-- THE TIED CARD OF 'traveldoclaw15.DatagroupsOpensMade'. -/
def datagroupsOpensMadeCard : Claim7 := { stood := { row := datagroupsOpensMadeRow, standIns := [], harness := (true, "6b1fdfa60e1fa96ce116a730c515ae7fe4167f4ccbd8cb79c1413ce5c2813ace"), looks := false }, kinds := [], alts := [], laidByText := true, laidKinds := [.data, .data, .data, .data, .data, .pinned], laidTests := true, laidLooks := .later }
def DatagroupsOpensMadeCardSaid : Prop := Claim7.holds Tryz.pinned (.plain (OpenSpec.ofChange datagroupsOpensMadeSpec)) datagroupsOpensMadeCard

/-- THE TIED CARD OF 'traveldoclaw15.DatagroupsReturns'. -/
def datagroupsReturnsCard : Claim7 := { stood := { row := datagroupsReturnsRow, standIns := [], harness := (true, "6b1fdfa60e1fa96ce116a730c515ae7fe4167f4ccbd8cb79c1413ce5c2813ace"), looks := false }, kinds := [], alts := [], laidByText := true, laidKinds := [.data, .data, .data, .data, .pinned], laidTests := true, laidLooks := .later }
def DatagroupsReturnsCardSaid : Prop := Claim7.holds Tryz.pinned (.plain (OpenSpec.ofChange datagroupsReturnsSpec)) datagroupsReturnsCard

/-- THE SECOND FORM's CARD OF 'traveldoclaw15.DatagroupsForms'. -/
def datagroupsFormsUptoCard : Claim7 := { stood := { row := datagroupsFormsUptoRow, standIns := [], harness := (true, "6b1fdfa60e1fa96ce116a730c515ae7fe4167f4ccbd8cb79c1413ce5c2813ace"), looks := false }, kinds := [], alts := [], laidByText := true, laidKinds := [.data, .data], laidTests := true, laidLooks := .later }
def DatagroupsFormsUptoCardSaid : Prop := Claim7.holds Tryz.pinned (.plain (OpenSpec.upto datagroupsFormsSpec)) datagroupsFormsUptoCard

/-- THE SECOND FORM's CARD OF 'traveldoclaw15.DatagroupsWrites'. -/
def datagroupsWritesUptoCard : Claim7 := { stood := { row := datagroupsWritesUptoRow, standIns := [], harness := (true, "6b1fdfa60e1fa96ce116a730c515ae7fe4167f4ccbd8cb79c1413ce5c2813ace"), looks := false }, kinds := [], alts := [], laidByText := true, laidKinds := [.data, .data, .data, .data, .data, .pinned], laidTests := true, laidLooks := .later }
def DatagroupsWritesUptoCardSaid : Prop := Claim7.holds Tryz.pinned (.plain (OpenSpec.upto datagroupsWritesSpec)) datagroupsWritesUptoCard

/-- THE SECOND FORM's CARD OF 'traveldoclaw15.DatagroupsOpens'. -/
def datagroupsOpensUptoCard : Claim7 := { stood := { row := datagroupsOpensUptoRow, standIns := [], harness := (true, "6b1fdfa60e1fa96ce116a730c515ae7fe4167f4ccbd8cb79c1413ce5c2813ace"), looks := false }, kinds := [], alts := [], laidByText := true, laidKinds := [.data, .data, .data, .data, .data, .pinned], laidTests := true, laidLooks := .later }
def DatagroupsOpensUptoCardSaid : Prop := Claim7.holds Tryz.pinned (.plain (OpenSpec.upto datagroupsOpensSpec)) datagroupsOpensUptoCard

/-- THE SECOND FORM's CARD OF 'traveldoclaw15.DatagroupsOpensMade'. -/
def datagroupsOpensMadeUptoCard : Claim7 := { stood := { row := datagroupsOpensMadeUptoRow, standIns := [], harness := (true, "6b1fdfa60e1fa96ce116a730c515ae7fe4167f4ccbd8cb79c1413ce5c2813ace"), looks := false }, kinds := [], alts := [], laidByText := true, laidKinds := [.data, .data, .data, .data, .data, .pinned], laidTests := true, laidLooks := .later }
def DatagroupsOpensMadeUptoCardSaid : Prop := Claim7.holds Tryz.pinned (.plain (OpenSpec.upto datagroupsOpensMadeSpec)) datagroupsOpensMadeUptoCard

/-- THE SECOND FORM's CARD OF 'traveldoclaw15.DatagroupsReturns'. -/
def datagroupsReturnsUptoCard : Claim7 := { stood := { row := datagroupsReturnsUptoRow, standIns := [], harness := (true, "6b1fdfa60e1fa96ce116a730c515ae7fe4167f4ccbd8cb79c1413ce5c2813ace"), looks := false }, kinds := [], alts := [], laidByText := true, laidKinds := [.data, .data, .data, .data, .pinned], laidTests := true, laidLooks := .later }
def DatagroupsReturnsUptoCardSaid : Prop := Claim7.holds Tryz.pinned (.plain (OpenSpec.upto datagroupsReturnsSpec)) datagroupsReturnsUptoCard
end Rows
end Go.Proofs.YtnjanpmgonoeeaaGreatDoor
