/- The tables stand before the call: out of a row's list. -/
import Derived.Test.YtkkfcpohiofinaaDoorK4
import Derived.Test.YtkkfcpohiofinaaDoorCards
import Derived.Test.YtkkfcpohiofinaaDoorTie
import Derived.WalkKit
import Derived.ProofKit
import Derived.OpenShut
import Derived.Deep.DeepHandedRow
import Derived.Lib.LaidTab
import Derived.LaidSub
import Derived.Test.YtkkfcpohiofinaaDoorK5
set_option linter.unusedVariables false
set_option linter.unusedSimpArgs false
namespace Go.Proofs.YtkkfcpohiofinaaDoor
open Go Tdoc

theorem gTab0 : Tryd.prog.globalNamed "traveldoc/datagroups.tags" = some 0 := by kernel_rfl
theorem gTab1 : Tryd.prog.globalNamed "traveldoc/traveldocref15.tags" = some 1 := by kernel_rfl
theorem gTy0 : (Tryd.prog.globals[0]?).map (·.type) = some 43 := by kernel_rfl
theorem gTy1 : (Tryd.prog.globals[1]?).map (·.type) = some 43 := by kernel_rfl
theorem cellsA : Tryd.prog.cellsOf 43 = 18 := by kernel_rfl
theorem cellsI : Tryd.prog.cellsOf 3 = 1 := by kernel_rfl
theorem undA : Tryd.prog.underlying 43 = some (.array 18 3) := by kernel_rfl
theorem undI : Tryd.prog.underlying 3 = some (.int .i64) := by kernel_rfl
def laidAll : List (String × DataW Unit) := [("traveldoc/traveldocref15.tags", Rows.laid_traveldoc_traveldocref15_tags), ("traveldoc/datagroups.tags", Rows.laid_traveldoc_datagroups_tags)]

theorem table1 {W : World} (h : laidMetH Tryd.prog laidAll W) : Lib.TabIs Tryd.prog W "traveldoc/traveldocref15.tags" .i64 tagTab :=
  Lib.tabIs_of_head (rest := [("traveldoc/datagroups.tags", Rows.laid_traveldoc_datagroups_tags)]) gTab1 gTy1 undA undI cellsI cellsA h
theorem table0 {W : World} (h : laidMetH Tryd.prog laidAll W) : Lib.TabIs Tryd.prog W "traveldoc/datagroups.tags" .i64 tagTab :=
  Lib.tabIs_of_head (rest := []) gTab0 gTy0 undA undI cellsI cellsA (laidMetH.filter (fun x => x.1 == "traveldoc/datagroups.tags") h)

theorem tab_one {W : World} {name : String} {g : Nat} (h : Lib.TabIs Tryd.prog W name .i64 tagTab) (hg : Tryd.prog.globalNamed name = some g) (j : Nat) (d : Dat) (hd : tagD[j]? = some d) :
    (GW W).imm ⟨g, j, none⟩ = some (.int .i64 (tagTab.getD j 0)) ∧ RepD (GW W).imm d (.int .i64 (tagTab.getD j 0)) := by
  unfold tagD at hd
  rw [List.getElem?_map, Option.map_eq_some_iff] at hd
  obtain ⟨z, hz, rfl⟩ := hd
  have hj : j < tagTab.length := (List.getElem?_eq_some_iff.1 hz).1
  have hz2 : tagTab.getD j 0 = z := by rw [List.getD_eq_getElem?_getD, hz]; rfl
  refine ⟨h.cell hg j hj, ?_⟩
  rw [hz2]
  exact .int _ _

theorem tabOk {W : World} (h : laidMetH Tryd.prog laidAll W) : TabOk (GW W).imm := by
  intro g cs hg
  match g, hg with
  | 0, hg =>
    obtain rfl : tagD = cs := Option.some.inj hg
    exact ⟨fun j => .int .i64 (tagTab.getD j 0), fun j d hd => tab_one (table0 h) gTab0 j d hd⟩
  | 1, hg =>
    obtain rfl : tagD = cs := Option.some.inj hg
    exact ⟨fun j => .int .i64 (tagTab.getD j 0), fun j d hd => tab_one (table1 h) gTab1 j d hd⟩
  | g + 2, hg => simp [seatTab] at hg
end Go.Proofs.YtkkfcpohiofinaaDoor
/- 'DatagroupsWraps' (traveldoclaw15.DatagroupsWraps): whatever the input, the law returns true; the card. -/
set_option linter.unusedVariables false
set_option linter.unusedSimpArgs false
namespace Go.Proofs.YtkkfcpohiofinaaDoor.datagroupsWraps
open Go Go.ChangeShapes Go.WideShapes Go.ChangeAt Go.RowKit Tdoc

theorem own : ownKnob Tryd.prog.godebug = none := by kernel_rfl
theorem laid : laidOutB Tryd.prog = true := by kernel_rfl
theorem hb : Tryd.prog.underlying 4 = some .bool := by kernel_rfl
theorem hi : Tryd.prog.underlying 3 = some (.int .i64) := by kernel_rfl
theorem his : Tryd.prog.underlying 29 = some (.slice 3) := by kernel_rfl
theorem hic : Tryd.prog.cellsOf 3 = 1 := by kernel_rfl

theorem contract (H : Type) (enc : TypeId × Value → H) (W : World) (base : Nat) (args : Array Value) (ds gs : List (DataW H)) (before : List MemPlace)
    (hval : ∀ (j : Nat) t v, Tryd.f4.params[j]? = some t → args[j]? = some v → Value.okWide Tryd.prog W .any base t v)
    (hW : DataW.Whole enc Tryd.prog Tryd.f4.params.toList Rows.datagroupsWrapsSpec.vars false W args.toList ds gs before) (hL : laidMetH Tryd.prog Rows.datagroupsWrapsRow.laid W) :
    Calls Tryd.prog 4 args W fun e W' => ∃ v, e = .returned v ∧ Rows.datagroupsWrapsSpec.post enc Tryd.prog Tryd.f4 false true false false W args v W' := by
  have hW' := hW
  obtain ⟨p, q, hA, hV, hbe, hfz, hnd⟩ := hW
  rw [Tryd.params4] at hA hval
  obtain ⟨v0, vs0, d0, ds0, p0, q0, hargs, rfl, rfl, h0, r0⟩ := trodAll_cons hA
  obtain ⟨v1, vs1, d1, ds1, p1, q1, rfl, rfl, rfl, h1, r1⟩ := trodAll_cons r0
  obtain ⟨v2, vs2, d2, ds2, p2, q2, rfl, rfl, rfl, h2, r2⟩ := trodAll_cons r1
  obtain ⟨rfl, rfl, rfl⟩ := trodAll_nil r2
  obtain rfl : args = #[v0, v1, v2] := by cases args; simp_all
  obtain ⟨rfl, rfl⟩ := trodVars_none hV
  obtain ⟨x0, l0, m0, e0⟩ := open_nums his hi hic (hval 0 _ v0 rfl rfl) h0
  obtain ⟨x1, l1, e1⟩ := open_num hi (hval 1 _ v1 rfl rfl) h1
  have hr1 : -9223372036854775808 ≤ x1 ∧ x1 ≤ 9223372036854775807 := by
    have hm : IntKind.i64.min = -9223372036854775808 := by decide
    have h2 := l1
    simp [Lit.wf] at h2
    rw [hm] at h2
    exact ⟨h2.1, h2.2⟩
  obtain ⟨x2, l2, m2, e2⟩ := open_nums his hi hic (hval 2 _ v2 rfl rfl) h2
  refine (law_calls (tabOk hL) (datagroupsWraps_spec x0 x1 hr1 x2 (by have := m2; unfold maxLen at this; omega)) rfl (fun j x v hx hv => ?_)).mono fun e W' ⟨he, hb'⟩ => ⟨_, he, law_post laid (by kernel_rfl) (by kernel_rfl) hb rfl hW' rfl hb'⟩
  match j, hx, hv with
  | 0, hx, hv => simp at hx hv; subst hx; subst hv; exact e0
  | 1, hx, hv => simp at hx hv; subst hx; subst hv; exact e1
  | 2, hx, hv => simp at hx hv; subst hx; subst hv; exact e2
  | j + 3, hx, hv => simp at hx

/-- A world for the witness. -/
noncomputable def lay (w : World) (g : Nat) : World :=
  { w with heap := w.heap.modify g fun
      | .cells _ t frozen => .cells #[.int .i64 97, .int .i64 117, .int .i64 99, .int .i64 118, .int .i64 101, .int .i64 102, .int .i64 103, .int .i64 104, .int .i64 105, .int .i64 106, .int .i64 107, .int .i64 108, .int .i64 109, .int .i64 110, .int .i64 111, .int .i64 112, .int .i64 96, .int .i64 119] t frozen
      | o => o }
noncomputable def laidWorld (os : Os) : World := lay (lay (World.holding Tryd.prog os ⟨#[], #[], []⟩) 0) 1
theorem laid_met (os : Os) : laidMet Tryd.prog Rows.datagroupsWrapsRow.laid ((laidWorld os).forCall (fun _ _ => 0) ⟨#[], #[.slice none 0 0, .int .i64 0, .slice none 0 0], []⟩).memory :=
  laidMet_of_run' 8 (by kernel_rfl) (by kernel_rfl)
theorem reads (os : Os) {H : Type} (enc : TypeId × Value → H) : ∃ places, DataW.whole enc Tryd.prog ((laidWorld os).forCall (fun _ _ => 0) ⟨#[], #[.slice none 0 0, .int .i64 0, .slice none 0 0], []⟩).memory Tryd.f4.params.toList Rows.datagroupsWrapsSpec.vars false #[Value.slice none 0 0, Value.int .i64 0, Value.slice none 0 0].toList 8 = some ([.nil, .lit (.int .i64 0), .nil], [], places) :=
  ⟨[], by kernel_rfl⟩

set_option maxRecDepth 100000 in
theorem lifted (os : Os) (started : os.Started) (H : Type) (enc : TypeId × Value → H) (F : Stop.Interp) :
    ReturnsInHanded {} Tryd.checked os 4 .any ((OpenSpec.ofChange Rows.datagroupsWrapsSpec).preRow enc Tryd.prog Tryd.f4 Rows.datagroupsWrapsRow.domain false Rows.datagroupsWrapsRow.laid) (((OpenSpec.ofChange Rows.datagroupsWrapsSpec).at F).post enc Tryd.prog Tryd.f4 false true false false) := by
  obtain ⟨places, hx⟩ := reads os enc
  refine returnsInHanded_of_row (C := Tryd.checked) (s := OpenSpec.ofChange Rows.datagroupsWrapsSpec) own started (by kernel_rfl) Tryd.func4
    (witness_row_at (enc := enc) (C := Tryd.checked) false (laidWorld os) #[.slice none 0 0, .int .i64 0, .slice none 0 0] rfl (by kernel_rfl) (by kernel_rfl) (by kernel_rfl)
      (OpenSpec.preRow_of_cond 8 hx (by kernel_rfl) (fun k hk => by cases hk) (by kernel_rfl) (laid_met os))) ?_
  intro W base args ds gs before hval hW _ _ _ hL _ _
  exact contract H enc W base args ds gs before hval hW hL

theorem said : Rows.DatagroupsWrapsSaid :=
  OpenClaim.holds_of_cond 4 Tryd.f4 rfl rfl rfl rfl rfl rfl rfl ⟨rfl, rfl, rfl, rfl, rfl⟩ rfl rfl rfl rfl rfl (by kernel_rfl) Tryd.func4 (by kernel_rfl)
    (of_decide_eq_true (by kernel_rfl)) (by unfold Func.isWrapper; first | (rw [if_pos (by decide +kernel)]; kernel_rfl) | (rw [if_neg (by decide +kernel)]; exact ⟨rfl, rfl⟩))
    (fun os started H enc _ F => by rw [OpenClaim.pre_eq_preRow]; exact lifted os started H enc F)

theorem plain (f : FuncId) (fn : Func) (hf : Tryd.pinned.checked.prog.funcNamed "traveldoc/traveldoclaw15.DatagroupsWraps" = some f) (hfn : Tryd.pinned.checked.prog.funcs[f]? = some fn) :
    false = Tryd.pinned.checked.prog.looks [] ∧ ∀ (j : Nat) t, fn.params[j]? = some t → Tryd.pinned.checked.prog.wantsStandIn t = false := by
  obtain rfl : f = 4 := Option.some.inj ((show Tryd.prog.funcNamed "traveldoc/traveldoclaw15.DatagroupsWraps" = some 4 by kernel_rfl).symm.trans hf) |>.symm
  obtain rfl : fn = Tryd.f4 := (Option.some.inj (Tryd.func4.symm.trans hfn)).symm
  refine ⟨by kernel_rfl, fun j t ht => ?_⟩
  rw [Tryd.params4] at ht
  match j, ht with
  | 0, ht => simp at ht; subst ht; exact (show Tryd.prog.wantsStandIn 29 = false by kernel_rfl)
  | 1, ht => simp at ht; subst ht; exact (show Tryd.prog.wantsStandIn 3 = false by kernel_rfl)
  | 2, ht => simp at ht; subst ht; exact (show Tryd.prog.wantsStandIn 29 = false by kernel_rfl)
  | j + 3, ht => simp at ht

theorem proved : Rows.DatagroupsWrapsCardSaid :=
  Claim7.holds_tied_plain_at .later [] _ _ _ _ said (fun _ h => by cases h) (by kernel_rfl) (fun _ h => by cases h) datagroupsWraps_row_tie rfl ⟨rfl, rfl⟩ (by kernel_rfl) rfl plain (by kernel_rfl)
end Go.Proofs.YtkkfcpohiofinaaDoor.datagroupsWraps
