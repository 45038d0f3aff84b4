/- 'DatagroupsNumbers' (traveldoclaw15.DatagroupsNumbers): whatever the number, the law returns true; the card. -/
import Derived.Test.YtkkfcpohiofinaaDoorE22
import Derived.Test.YtkkfcpohiofinaaDoorV0
set_option linter.unusedVariables false
set_option linter.unusedSimpArgs false
namespace Go.Proofs.YtkkfcpohiofinaaDoor.datagroupsNumbers
open Go Go.ChangeShapes Go.WideShapes Go.ChangeAt Go.RowKit Tdoc

theorem own : ownKnob Tryd.prog.godebug = none := by kernel_rfl
theorem laid : laidOutB Tryd.prog = true := by kernel_rfl
theorem hb : Tryd.prog.underlying 4 = some .bool := by kernel_rfl
theorem hi : Tryd.prog.underlying 3 = some (.int .i64) := by kernel_rfl

theorem contract (H : Type) (enc : TypeId × Value → H) (W : World) (base : Nat) (args : Array Value) (ds gs : List (DataW H)) (before : List MemPlace)
    (hval : ∀ (j : Nat) t v, Tryd.f3.params[j]? = some t → args[j]? = some v → Value.okWide Tryd.prog W .any base t v)
    (hW : DataW.Whole enc Tryd.prog Tryd.f3.params.toList Rows.datagroupsNumbersSpec.vars false W args.toList ds gs before) (hL : laidMetH Tryd.prog Rows.datagroupsNumbersRow.laid W) :
    Calls Tryd.prog 3 args W fun e W' => ∃ v, e = .returned v ∧ Rows.datagroupsNumbersSpec.post enc Tryd.prog Tryd.f3 false true false false W args v W' := by
  have hW' := hW
  obtain ⟨p, q, hA, hV, hbe, hfz, hnd⟩ := hW
  rw [Tryd.params3] at hA hval
  obtain ⟨v0, vs0, d0, ds0, p0, q0, hargs, rfl, rfl, h0, r0⟩ := trodAll_cons hA
  obtain ⟨rfl, rfl, rfl⟩ := trodAll_nil r0
  obtain rfl : args = #[v0] := by cases args; simp_all
  obtain ⟨rfl, rfl⟩ := trodVars_none hV
  obtain ⟨x0, l0, e0⟩ := open_num hi (hval 0 _ v0 rfl rfl) h0
  have hr0 : -9223372036854775808 ≤ x0 ∧ x0 ≤ 9223372036854775807 := by
    have hm : IntKind.i64.min = -9223372036854775808 := by decide
    have h2 := l0
    simp [Lit.wf] at h2
    rw [hm] at h2
    exact ⟨h2.1, h2.2⟩
  refine (law_calls (tabOk hL) (datagroupsNumbers_spec x0 hr0) rfl (fun j x v hx hv => ?_)).mono fun e W' ⟨he, hb'⟩ => ⟨_, he, law_post laid (by kernel_rfl) (by kernel_rfl) hb rfl hW' rfl hb'⟩
  match j, hx, hv with
  | 0, hx, hv => simp at hx hv; subst hx; subst hv; exact e0
  | j + 1, hx, hv => simp at hx

/-- A world for the witness. -/
noncomputable def lay (w : World) (g : Nat) : World :=
  { w with heap := w.heap.modify g fun
      | .cells _ t frozen => .cells #[.int .i64 97, .int .i64 117, .int .i64 99, .int .i64 118, .int .i64 101, .int .i64 102, .int .i64 103, .int .i64 104, .int .i64 105, .int .i64 106, .int .i64 107, .int .i64 108, .int .i64 109, .int .i64 110, .int .i64 111, .int .i64 112, .int .i64 96, .int .i64 119] t frozen
      | o => o }
noncomputable def laidWorld (os : Os) : World := lay (lay (World.holding Tryd.prog os ⟨#[], #[], []⟩) 0) 1
theorem laid_met (os : Os) : laidMet Tryd.prog Rows.datagroupsNumbersRow.laid ((laidWorld os).forCall (fun _ _ => 0) ⟨#[], #[.int .i64 0], []⟩).memory :=
  laidMet_of_run' 8 (by kernel_rfl) (by kernel_rfl)
theorem reads (os : Os) {H : Type} (enc : TypeId × Value → H) : ∃ places, DataW.whole enc Tryd.prog ((laidWorld os).forCall (fun _ _ => 0) ⟨#[], #[.int .i64 0], []⟩).memory Tryd.f3.params.toList Rows.datagroupsNumbersSpec.vars false #[Value.int .i64 0].toList 8 = some ([.lit (.int .i64 0)], [], places) :=
  ⟨[], by kernel_rfl⟩

set_option maxRecDepth 100000 in
theorem lifted (os : Os) (started : os.Started) (H : Type) (enc : TypeId × Value → H) (F : Stop.Interp) :
    ReturnsInHanded {} Tryd.checked os 3 .any ((OpenSpec.ofChange Rows.datagroupsNumbersSpec).preRow enc Tryd.prog Tryd.f3 Rows.datagroupsNumbersRow.domain false Rows.datagroupsNumbersRow.laid) (((OpenSpec.ofChange Rows.datagroupsNumbersSpec).at F).post enc Tryd.prog Tryd.f3 false true false false) := by
  obtain ⟨places, hx⟩ := reads os enc
  refine returnsInHanded_of_row (C := Tryd.checked) (s := OpenSpec.ofChange Rows.datagroupsNumbersSpec) own started (by kernel_rfl) Tryd.func3
    (witness_row_at (enc := enc) (C := Tryd.checked) false (laidWorld os) #[.int .i64 0] rfl (by kernel_rfl) (by kernel_rfl) (by kernel_rfl)
      (OpenSpec.preRow_of_cond 8 hx (by kernel_rfl) (fun k hk => by cases hk) (by kernel_rfl) (laid_met os))) ?_
  intro W base args ds gs before hval hW _ _ _ hL _ _
  exact contract H enc W base args ds gs before hval hW hL

theorem said : Rows.DatagroupsNumbersSaid :=
  OpenClaim.holds_of_cond 3 Tryd.f3 rfl rfl rfl rfl rfl rfl rfl ⟨rfl, rfl, rfl, rfl, rfl⟩ rfl rfl rfl rfl rfl (by kernel_rfl) Tryd.func3 (by kernel_rfl)
    (of_decide_eq_true (by kernel_rfl)) (by unfold Func.isWrapper; first | (rw [if_pos (by decide +kernel)]; kernel_rfl) | (rw [if_neg (by decide +kernel)]; exact ⟨rfl, rfl⟩))
    (fun os started H enc _ F => by rw [OpenClaim.pre_eq_preRow]; exact lifted os started H enc F)

theorem plain (f : FuncId) (fn : Func) (hf : Tryd.pinned.checked.prog.funcNamed "traveldoc/traveldoclaw15.DatagroupsNumbers" = some f) (hfn : Tryd.pinned.checked.prog.funcs[f]? = some fn) :
    false = Tryd.pinned.checked.prog.looks [] ∧ ∀ (j : Nat) t, fn.params[j]? = some t → Tryd.pinned.checked.prog.wantsStandIn t = false := by
  obtain rfl : f = 3 := Option.some.inj ((show Tryd.prog.funcNamed "traveldoc/traveldoclaw15.DatagroupsNumbers" = some 3 by kernel_rfl).symm.trans hf) |>.symm
  obtain rfl : fn = Tryd.f3 := (Option.some.inj (Tryd.func3.symm.trans hfn)).symm
  refine ⟨by kernel_rfl, fun j t ht => ?_⟩
  rw [Tryd.params3] at ht
  obtain rfl : t = 3 := by simpa using Array.mem_of_getElem? ht
  exact (show Tryd.prog.wantsStandIn 3 = false by kernel_rfl)

theorem proved : Rows.DatagroupsNumbersCardSaid :=
  Claim7.holds_tied_plain_at .later [] _ _ _ _ said (fun _ h => by cases h) (by kernel_rfl) (fun _ h => by cases h) datagroupsNumbers_row_tie rfl ⟨rfl, rfl⟩ (by kernel_rfl) rfl plain (by kernel_rfl)
end Go.Proofs.YtkkfcpohiofinaaDoor.datagroupsNumbers
