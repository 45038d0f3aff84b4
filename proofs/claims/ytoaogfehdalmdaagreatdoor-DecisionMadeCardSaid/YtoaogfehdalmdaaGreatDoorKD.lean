/- 'DecisionMade' (traveldoclaw38.DecisionMade): whatever the input, the law returns true; the card. -/
import Derived.Test.YtoaogfehdalmdaaGreatDoorKB
import Derived.Test.YtoaogfehdalmdaaGreatDoorKA
set_option linter.unusedVariables false
set_option linter.unusedSimpArgs false
set_option maxRecDepth 100000
namespace Go.Proofs.YtoaogfehdalmdaaGreatDoor.decisionMade
open Go Go.ChangeShapes Go.WideShapes Go.ChangeAt Go.RowKit Tdoc

theorem own : ownKnob Tryz.prog.godebug = none := by kernel_rfl
theorem laid : laidOutB Tryz.prog = true := by kernel_rfl
theorem hb : Tryz.prog.underlying 4 = some .bool := by kernel_rfl
theorem hi : Tryz.prog.underlying 3 = some (.int .i64) := by kernel_rfl
theorem his : Tryz.prog.underlying 22 = some (.slice 3) := by kernel_rfl
theorem hic : Tryz.prog.cellsOf 3 = 1 := by kernel_rfl

theorem contract (H : Type) (enc : TypeId × Value → H) (W : World) (base : Nat) (args : Array Value) (ds gs : List (DataW H)) (before : List MemPlace)
    (hval : ∀ (j : Nat) t v, Tryz.f3.params[j]? = some t → args[j]? = some v → Value.okWide Tryz.prog W .any base t v)
    (hW : DataW.Whole enc Tryz.prog Tryz.f3.params.toList Rows.decisionMadeSpec.vars false W args.toList ds gs before) (hL : laidMetH Tryz.prog Rows.decisionMadeRow.laid W) (hsh : W.ShapedOpen Tryz.prog) :
    Calls Tryz.prog 3 args W fun e W' => ∃ v, e = .returned v ∧ Rows.decisionMadeSpec.post enc Tryz.prog Tryz.f3 false true false false W args v W' := by
  have hW' := hW
  obtain ⟨p, q, hA, hV, hbe, hfz, hnd⟩ := hW
  rw [Tryz.params3] at hA hval
  obtain ⟨v0, vs0, d0, ds0, p0, q0, hargs, rfl, rfl, h0, r0⟩ := trodAll_cons hA
  obtain ⟨v1, vs1, d1, ds1, p1, q1, rfl, rfl, rfl, h1, r1⟩ := trodAll_cons r0
  obtain ⟨v2, vs2, d2, ds2, p2, q2, rfl, rfl, rfl, h2, r2⟩ := trodAll_cons r1
  obtain ⟨v3, vs3, d3, ds3, p3, q3, rfl, rfl, rfl, h3, r3⟩ := trodAll_cons r2
  obtain ⟨v4, vs4, d4, ds4, p4, q4, rfl, rfl, rfl, h4, r4⟩ := trodAll_cons r3
  obtain ⟨rfl, rfl, rfl⟩ := trodAll_nil r4
  obtain rfl : args = #[v0, v1, v2, v3, v4] := by cases args; simp_all
  obtain ⟨rfl, rfl⟩ := trodVars_none hV
  obtain ⟨x0, l0, m0, e0⟩ := open_nums his hi hic (hval 0 _ v0 rfl rfl) h0
  obtain ⟨x1, l1, m1, e1⟩ := open_nums his hi hic (hval 1 _ v1 rfl rfl) h1
  obtain ⟨x2, l2, e2⟩ := open_num hi (hval 2 _ v2 rfl rfl) h2
  have l2 := wf64 l2
  obtain ⟨x3, l3, e3⟩ := open_num hi (hval 3 _ v3 rfl rfl) h3
  have l3 := wf64 l3
  obtain ⟨x4, l4, e4⟩ := open_num hi (hval 4 _ v4 rfl rfl) h4
  have l4 := wf64 l4
  refine (law_calls (tabOk hL hsh) (decisionMade_spec x0 x1 x2 x3 x4) rfl (fun j x v hx hv => ?_)).mono fun e W' ⟨he, hb'⟩ => ⟨_, he, law_post laid (by kernel_rfl) (by kernel_rfl) hb rfl hW' rfl hb'⟩
  match j, hx, hv with
  | 0, hx, hv => simp at hx hv; subst hx; subst hv; exact e0
  | 1, hx, hv => simp at hx hv; subst hx; subst hv; exact e1
  | 2, hx, hv => simp at hx hv; subst hx; subst hv; exact e2
  | 3, hx, hv => simp at hx hv; subst hx; subst hv; exact e3
  | 4, hx, hv => simp at hx hv; subst hx; subst hv; exact e4
  | j + 5, hx, hv => simp at hx

theorem laid_met (os : Os) : laidMet Tryz.prog Rows.decisionMadeRow.laid ((laidWorld os).forCall (fun _ _ => 0) ⟨#[], #[Value.slice none 0 0, Value.slice none 0 0, Value.int .i64 0, Value.int .i64 0, Value.int .i64 0], []⟩).memory :=
  laid_met0 os _
theorem reads (os : Os) {H : Type} (enc : TypeId × Value → H) : ∃ places, DataW.whole enc Tryz.prog ((laidWorld os).forCall (fun _ _ => 0) ⟨#[], #[Value.slice none 0 0, Value.slice none 0 0, Value.int .i64 0, Value.int .i64 0, Value.int .i64 0], []⟩).memory Tryz.f3.params.toList Rows.decisionMadeSpec.vars false #[Value.slice none 0 0, Value.slice none 0 0, Value.int .i64 0, Value.int .i64 0, Value.int .i64 0].toList 8 = some ([.nil, .nil, .lit (.int .i64 0), .lit (.int .i64 0), .lit (.int .i64 0)], [], places) :=
  ⟨[], by kernel_rfl⟩

theorem lifted (os : Os) (started : os.Started) (H : Type) (enc : TypeId × Value → H) (F : Stop.Interp) :
    ReturnsInHanded {} Tryz.checked os 3 .any ((OpenSpec.ofChange Rows.decisionMadeSpec).preRow enc Tryz.prog Tryz.f3 Rows.decisionMadeRow.domain false Rows.decisionMadeRow.laid) (((OpenSpec.ofChange Rows.decisionMadeSpec).at F).post enc Tryz.prog Tryz.f3 false true false false) := by
  obtain ⟨places, hx⟩ := reads os enc
  refine returnsInHanded_of_row (C := Tryz.checked) (s := OpenSpec.ofChange Rows.decisionMadeSpec) own started (by kernel_rfl) Tryz.func3
    (witness_row_at (enc := enc) (C := Tryz.checked) false (laidWorld os) #[Value.slice none 0 0, Value.slice none 0 0, Value.int .i64 0, Value.int .i64 0, Value.int .i64 0] rfl (by kernel_rfl) (by kernel_rfl) (by kernel_rfl)
      (OpenSpec.preRow_of_cond 8 hx (by kernel_rfl) (fun k hk => by cases hk) (by kernel_rfl) (laid_met os))) ?_
  intro W base args ds gs before hval hW _ _ _ hL hsh _
  exact contract H enc W base args ds gs before hval hW hL hsh

theorem said : Rows.DecisionMadeSaid :=
  OpenClaim.holds_of_cond 3 Tryz.f3 rfl rfl rfl rfl rfl rfl rfl ⟨rfl, rfl, rfl, rfl, rfl⟩ rfl rfl rfl rfl rfl (by kernel_rfl) Tryz.func3 (by kernel_rfl)
    (of_decide_eq_true (by kernel_rfl)) (by unfold Func.isWrapper; first | (rw [if_pos (by decide +kernel)]; kernel_rfl) | (rw [if_neg (by decide +kernel)]; exact ⟨rfl, rfl⟩))
    (fun os started H enc _ F => by rw [OpenClaim.pre_eq_preRow]; exact lifted os started H enc F)

theorem plain (f : FuncId) (fn : Func) (hf : Tryz.pinned.checked.prog.funcNamed "traveldoc/traveldoclaw38.DecisionMade" = some f) (hfn : Tryz.pinned.checked.prog.funcs[f]? = some fn) :
    true = Tryz.pinned.checked.prog.looks [] ∧ ∀ (j : Nat) t, fn.params[j]? = some t → Tryz.pinned.checked.prog.wantsStandIn t = false := by
  obtain rfl : f = 3 := Option.some.inj ((show Tryz.prog.funcNamed "traveldoc/traveldoclaw38.DecisionMade" = some 3 by kernel_rfl).symm.trans hf) |>.symm
  obtain rfl : fn = Tryz.f3 := (Option.some.inj (Tryz.func3.symm.trans hfn)).symm
  refine ⟨by kernel_rfl, fun j t ht => ?_⟩
  rw [Tryz.params3] at ht
  match j, ht with
  | 0, ht => simp at ht; subst ht; exact (show Tryz.prog.wantsStandIn 22 = false by kernel_rfl)
  | 1, ht => simp at ht; subst ht; exact (show Tryz.prog.wantsStandIn 22 = false by kernel_rfl)
  | 2, ht => simp at ht; subst ht; exact (show Tryz.prog.wantsStandIn 3 = false by kernel_rfl)
  | 3, ht => simp at ht; subst ht; exact (show Tryz.prog.wantsStandIn 3 = false by kernel_rfl)
  | 4, ht => simp at ht; subst ht; exact (show Tryz.prog.wantsStandIn 3 = false by kernel_rfl)
  | j + 5, ht => simp at ht

theorem proved : Rows.DecisionMadeCardSaid :=
  Claim7.holds_tied_plain_at .later [] _ _ _ _ said (fun _ h => by cases h) (by kernel_rfl) (fun _ h => by cases h) decisionMade_row_tie rfl ⟨rfl, rfl⟩ (by kernel_rfl) rfl plain (by kernel_rfl)
end Go.Proofs.YtoaogfehdalmdaaGreatDoor.decisionMade
