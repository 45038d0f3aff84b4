/- The tables stand before the call: out of a row's list. -/
import Derived.Test.YtnjanpmgonoeeaaGreatDoorK4
import Derived.Test.YtnjanpmgonoeeaaGreatDoorCards
import Derived.Test.YtnjanpmgonoeeaaGreatDoorTie
import Derived.WalkKit
import Derived.ProofKit
import Derived.OpenShut
import Derived.Deep.DeepHandedRow
import Derived.Lib.LaidTab
import Derived.LaidSub
set_option linter.unusedVariables false
set_option linter.unusedSimpArgs false
namespace Go.Proofs.YtnjanpmgonoeeaaGreatDoor
open Go Tdoc

theorem gTab0 : Tryz.prog.globalNamed "traveldoc/datagroups.tags" = some 1 := by kernel_rfl
theorem gTab1 : Tryz.prog.globalNamed "traveldoc/traveldocref15.tags" = some 0 := by kernel_rfl
theorem gTy1 : (Tryz.prog.globals[0]?).map (·.type) = some 114 := by kernel_rfl
theorem gTy0 : (Tryz.prog.globals[1]?).map (·.type) = some 114 := by kernel_rfl
theorem cellsA : Tryz.prog.cellsOf 114 = 18 := by kernel_rfl
theorem cellsI : Tryz.prog.cellsOf 3 = 1 := by kernel_rfl
theorem undA : Tryz.prog.underlying 114 = some (.array 18 3) := by kernel_rfl
theorem undI : Tryz.prog.underlying 3 = some (.int .i64) := by kernel_rfl
def laidAll : List (String × DataW Unit) := [("traveldoc/traveldocref15.tags", Rows.laid_traveldoc_traveldocref15_tags), ("traveldoc/datagroups.tags", Rows.laid_traveldoc_datagroups_tags)]

theorem table1 {W : World} (h : laidMetH Tryz.prog laidAll W) : Lib.TabIs Tryz.prog W "traveldoc/traveldocref15.tags" .i64 tagTab :=
  Lib.tabIs_of_head (rest := [("traveldoc/datagroups.tags", Rows.laid_traveldoc_datagroups_tags)]) gTab1 gTy1 undA undI cellsI cellsA h
theorem table0 {W : World} (h : laidMetH Tryz.prog laidAll W) : Lib.TabIs Tryz.prog W "traveldoc/datagroups.tags" .i64 tagTab :=
  Lib.tabIs_of_head (rest := []) gTab0 gTy0 undA undI cellsI cellsA (laidMetH.filter (fun x => x.1 == "traveldoc/datagroups.tags") h)

theorem tab_one {W : World} {name : String} {g : Nat} (h : Lib.TabIs Tryz.prog W name .i64 tagTab) (hg : Tryz.prog.globalNamed name = some g) (j : Nat) (d : Dat) (hd : tagD[j]? = some d) :
    (GW W).imm ⟨g, j, none⟩ = some (.int .i64 (tagTab.getD j 0)) ∧ RepD (GW W).imm d (.int .i64 (tagTab.getD j 0)) := by
  unfold tagD at hd
  rw [List.getElem?_map, Option.map_eq_some_iff] at hd
  obtain ⟨z, hz, rfl⟩ := hd
  have hj : j < tagTab.length := (List.getElem?_eq_some_iff.1 hz).1
  have hz2 : tagTab.getD j 0 = z := by rw [List.getD_eq_getElem?_getD, hz]; rfl
  refine ⟨h.cell hg j hj, ?_⟩
  rw [hz2]
  exact .int _ _

theorem tabOk {W : World} (h : laidMetH Tryz.prog laidAll W) : TabOk W (GW W) := by
  refine ⟨fun g cs hg => ?_, fun g p hg => by simp [seatBlk] at hg⟩
  match g, hg with
  | 0, hg =>
    obtain rfl : tagD = cs := Option.some.inj hg
    exact ⟨fun j => .int .i64 (tagTab.getD j 0), fun j d hd => tab_one (table1 h) gTab1 j d hd⟩
  | 1, hg =>
    obtain rfl : tagD = cs := Option.some.inj hg
    exact ⟨fun j => .int .i64 (tagTab.getD j 0), fun j d hd => tab_one (table0 h) gTab0 j d hd⟩
  | g + 2, hg => simp [seatTab] at hg
end Go.Proofs.YtnjanpmgonoeeaaGreatDoor
