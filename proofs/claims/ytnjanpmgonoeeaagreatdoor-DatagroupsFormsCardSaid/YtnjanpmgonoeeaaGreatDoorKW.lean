/- 'DatagroupsForms' (traveldoclaw15.DatagroupsForms): whatever the input, the law returns true; the card. -/
import Derived.Test.YtnjanpmgonoeeaaGreatDoorK7
import Derived.Test.YtnjanpmgonoeeaaGreatDoorKV
set_option linter.unusedVariables false
set_option linter.unusedSimpArgs false
namespace Go.Proofs.YtnjanpmgonoeeaaGreatDoor.datagroupsForms
open Go Go.ChangeShapes Go.WideShapes Go.ChangeAt Go.RowKit Tdoc

theorem own : ownKnob Tryz.prog.godebug = none := by kernel_rfl
theorem laid : laidOutB Tryz.prog = true := by kernel_rfl
theorem hb : Tryz.prog.underlying 4 = some .bool := by kernel_rfl
theorem hi : Tryz.prog.underlying 3 = some (.int .i64) := by kernel_rfl
theorem his : Tryz.prog.underlying 22 = some (.slice 3) := by kernel_rfl
theorem hic : Tryz.prog.cellsOf 3 = 1 := by kernel_rfl

set_option maxRecDepth 100000 in
theorem contract (H : Type) (enc : TypeId × Value → H) (W : World) (base : Nat) (args : Array Value) (ds gs : List (DataW H)) (before : List MemPlace)
    (hval : ∀ (j : Nat) t v, Tryz.f3.params[j]? = some t → args[j]? = some v → Value.okWide Tryz.prog W .any base t v)
    (hW : DataW.Whole enc Tryz.prog Tryz.f3.params.toList Rows.datagroupsFormsSpec.vars false W args.toList ds gs before) (hL : laidMetH Tryz.prog Rows.datagroupsFormsRow.laid W) :
    Calls Tryz.prog 3 args W fun e W' => ∃ v, e = .returned v ∧ Rows.datagroupsFormsSpec.post enc Tryz.prog Tryz.f3 false true false false W args v W' := by
  have hW' := hW
  obtain ⟨p, q, hA, hV, hbe, hfz, hnd⟩ := hW
  rw [Tryz.params3] at hA hval
  obtain ⟨v0, vs0, d0, ds0, p0, q0, hargs, rfl, rfl, h0, r0⟩ := trodAll_cons hA
  obtain ⟨rfl, rfl, rfl⟩ := trodAll_nil r0
  obtain rfl : args = #[v0] := by cases args; simp_all
  obtain ⟨rfl, rfl⟩ := trodVars_none hV
  obtain ⟨x0, l0, m0, e0⟩ := open_nums his hi hic (hval 0 _ v0 rfl rfl) h0
  refine (law_calls (tabOk hL) (datagroupsForms_spec x0 (by have := m0; unfold maxLen at this; omega)) rfl (fun j x v hx hv => ?_)).mono fun e W' ⟨he, hb'⟩ => ⟨_, he, law_post laid (by kernel_rfl) (by kernel_rfl) hb rfl hW' rfl hb'⟩
  match j, hx, hv with
  | 0, hx, hv => simp at hx hv; subst hx; subst hv; exact e0
  | j + 1, hx, hv => simp at hx

/-- A world for the witness. -/
noncomputable def lay (w : World) (g : Nat) : World :=
  { w with heap := w.heap.modify g fun
      | .cells _ t frozen => .cells #[.int .i64 97, .int .i64 117, .int .i64 99, .int .i64 118, .int .i64 101, .int .i64 102, .int .i64 103, .int .i64 104, .int .i64 105, .int .i64 106, .int .i64 107, .int .i64 108, .int .i64 109, .int .i64 110, .int .i64 111, .int .i64 112, .int .i64 96, .int .i64 119] t frozen
      | o => o }
noncomputable def laidWorld (os : Os) : World := lay (lay (World.holding Tryz.prog os ⟨#[], #[], []⟩) 0) 1
theorem laid_met (os : Os) : laidMet Tryz.prog Rows.datagroupsFormsRow.laid ((laidWorld os).forCall (fun _ _ => 0) ⟨#[], #[.slice none 0 0], []⟩).memory :=
  laidMet_of_run' 8 (by kernel_rfl) (by kernel_rfl)
theorem reads (os : Os) {H : Type} (enc : TypeId × Value → H) : ∃ places, DataW.whole enc Tryz.prog ((laidWorld os).forCall (fun _ _ => 0) ⟨#[], #[.slice none 0 0], []⟩).memory Tryz.f3.params.toList Rows.datagroupsFormsSpec.vars false #[Value.slice none 0 0].toList 8 = some ([.nil], [], places) :=
  ⟨[], by kernel_rfl⟩

set_option maxRecDepth 100000 in
theorem lifted (os : Os) (started : os.Started) (H : Type) (enc : TypeId × Value → H) (F : Stop.Interp) :
    ReturnsInHanded {} Tryz.checked os 3 .any ((OpenSpec.ofChange Rows.datagroupsFormsSpec).preRow enc Tryz.prog Tryz.f3 Rows.datagroupsFormsRow.domain false Rows.datagroupsFormsRow.laid) (((OpenSpec.ofChange Rows.datagroupsFormsSpec).at F).post enc Tryz.prog Tryz.f3 false true false false) := by
  obtain ⟨places, hx⟩ := reads os enc
  refine returnsInHanded_of_row (C := Tryz.checked) (s := OpenSpec.ofChange Rows.datagroupsFormsSpec) own started (by kernel_rfl) Tryz.func3
    (witness_row_at (enc := enc) (C := Tryz.checked) false (laidWorld os) #[.slice none 0 0] rfl (by kernel_rfl) (by kernel_rfl) (by kernel_rfl)
      (OpenSpec.preRow_of_cond 8 hx (by kernel_rfl) (fun k hk => by cases hk) (by kernel_rfl) (laid_met os))) ?_
  intro W base args ds gs before hval hW _ _ _ hL _ _
  exact contract H enc W base args ds gs before hval hW hL

theorem said : Rows.DatagroupsFormsSaid :=
  OpenClaim.holds_of_cond 3 Tryz.f3 rfl rfl rfl rfl rfl rfl rfl ⟨rfl, rfl, rfl, rfl, rfl⟩ rfl rfl rfl rfl rfl (by kernel_rfl) Tryz.func3 (by kernel_rfl)
    (of_decide_eq_true (by kernel_rfl)) (by unfold Func.isWrapper; first | (rw [if_pos (by decide +kernel)]; kernel_rfl) | (rw [if_neg (by decide +kernel)]; exact ⟨rfl, rfl⟩))
    (fun os started H enc _ F => by rw [OpenClaim.pre_eq_preRow]; exact lifted os started H enc F)

theorem plain (f : FuncId) (fn : Func) (hf : Tryz.pinned.checked.prog.funcNamed "traveldoc/traveldoclaw15.DatagroupsForms" = some f) (hfn : Tryz.pinned.checked.prog.funcs[f]? = some fn) :
    false = Tryz.pinned.checked.prog.looks [] ∧ ∀ (j : Nat) t, fn.params[j]? = some t → Tryz.pinned.checked.prog.wantsStandIn t = false := by
  obtain rfl : f = 3 := Option.some.inj ((show Tryz.prog.funcNamed "traveldoc/traveldoclaw15.DatagroupsForms" = some 3 by kernel_rfl).symm.trans hf) |>.symm
  obtain rfl : fn = Tryz.f3 := (Option.some.inj (Tryz.func3.symm.trans hfn)).symm
  refine ⟨by kernel_rfl, fun j t ht => ?_⟩
  rw [Tryz.params3] at ht
  match j, ht with
  | 0, ht => simp at ht; subst ht; exact (show Tryz.prog.wantsStandIn 22 = false by kernel_rfl)
  | j + 1, ht => simp at ht

theorem proved : Rows.DatagroupsFormsCardSaid :=
  Claim7.holds_tied_plain_at .later [] _ _ _ _ said (fun _ h => by cases h) (by kernel_rfl) (fun _ h => by cases h) datagroupsForms_row_tie rfl ⟨rfl, rfl⟩ (by kernel_rfl) rfl plain (by kernel_rfl)
end Go.Proofs.YtnjanpmgonoeeaaGreatDoor.datagroupsForms
