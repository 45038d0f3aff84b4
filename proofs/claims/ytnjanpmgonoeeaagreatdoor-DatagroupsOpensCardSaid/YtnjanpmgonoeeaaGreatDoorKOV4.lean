/- 'DatagroupsOpens' (traveldoclaw15.DatagroupsOpens): whatever the input, the law returns true; the card. -/
import Derived.Test.YtnjanpmgonoeeaaGreatDoorKO6
import Derived.Test.YtnjanpmgonoeeaaGreatDoorKOV5
set_option linter.unusedVariables false
set_option linter.unusedSimpArgs false
set_option maxRecDepth 100000
namespace Go.Proofs.YtnjanpmgonoeeaaGreatDoor.datagroupsOpens
open Go Go.ChangeShapes Go.WideShapes Go.ChangeAt Go.RowKit Tdoc

theorem own : ownKnob Tryz.prog.godebug = none := by kernel_rfl
theorem laid : laidOutB Tryz.prog = true := by kernel_rfl
theorem hb : Tryz.prog.underlying 4 = some .bool := by kernel_rfl
theorem hy : Tryz.prog.underlying 5 = some (.int .u8) := by kernel_rfl
theorem hys : Tryz.prog.underlying 27 = some (.slice 5) := by kernel_rfl
theorem hyc : Tryz.prog.cellsOf 5 = 1 := by kernel_rfl
theorem bytes_of {zs : List Int} (h : ∀ n, n ∈ zs → (Lit.int .u8 n).wf = true) : ∃ b : List UInt8, numsD .u8 zs = encB b ∧ b.length = zs.length := by
  induction zs with
  | nil => exact ⟨[], rfl, rfl⟩
  | cons n zs ih =>
    obtain ⟨b, h1, h2⟩ := ih fun m hm => h m (List.mem_cons_of_mem _ hm)
    have hn := h n List.mem_cons_self
    have hr : 0 ≤ n ∧ n < 256 := by
      have hn2 : (decide (IntKind.u8.min ≤ n) && decide (n ≤ IntKind.u8.max)) = true := hn
      simp [IntKind.min, IntKind.max, IntKind.signed, IntKind.bits] at hn2
      omega
    refine ⟨UInt8.ofNat n.toNat :: b, ?_, by simp [h2]⟩
    have hz : ((UInt8.ofNat n.toNat).toNat : Int) = n := by
      rw [UInt8.toNat_ofNat']
      omega
    show [Dat.int .u8 n] :: numsD .u8 zs = [Dat.int .u8 ((UInt8.ofNat n.toNat).toNat : Int)] :: encB b
    rw [hz, h1]

theorem contract (H : Type) (enc : TypeId × Value → H) (W : World) (base : Nat) (args : Array Value) (ds gs : List (DataW H)) (before : List MemPlace)
    (hval : ∀ (j : Nat) t v, Tryz.f5.params[j]? = some t → args[j]? = some v → Value.okWide Tryz.prog W .any base t v)
    (hW : DataW.Whole enc Tryz.prog Tryz.f5.params.toList Rows.datagroupsOpensSpec.vars false W args.toList ds gs before) (hL : laidMetH Tryz.prog Rows.datagroupsOpensRow.laid W) (hsh : W.ShapedOpen Tryz.prog) :
    Calls Tryz.prog 5 args W fun e W' => ∃ v, e = .returned v ∧ Rows.datagroupsOpensSpec.post enc Tryz.prog Tryz.f5 false true false false W args v W' := by
  have hW' := hW
  obtain ⟨p, q, hA, hV, hbe, hfz, hnd⟩ := hW
  rw [Tryz.params5] at hA hval
  obtain ⟨v0, vs0, d0, ds0, p0, q0, hargs, rfl, rfl, h0, r0⟩ := trodAll_cons hA
  obtain ⟨rfl, rfl, rfl⟩ := trodAll_nil r0
  obtain rfl : args = #[v0] := by cases args; simp_all
  obtain ⟨rfl, rfl⟩ := trodVars_none hV
  obtain ⟨z0, l0, m0, e0⟩ := open_nums hys hy hyc (hval 0 _ v0 rfl rfl) h0
  obtain ⟨x0, hz0, n0⟩ := bytes_of l0
  rw [hz0] at e0
  rw [← n0] at m0
  refine (law_calls (tabOk hL hsh) (datagroupsOpens_spec x0 (by have := m0; unfold maxLen at this; omega)) rfl (fun j x v hx hv => ?_)).mono fun e W' ⟨he, hb'⟩ => ⟨_, he, law_post laid (by kernel_rfl) (by kernel_rfl) hb rfl hW' rfl hb'⟩
  match j, hx, hv with
  | 0, hx, hv => simp at hx hv; subst hx; subst hv; exact e0
  | j + 1, hx, hv => simp at hx

theorem laid_met (os : Os) : laidMet Tryz.prog Rows.datagroupsOpensRow.laid ((laidWorld os).forCall (fun _ _ => 0) ⟨#[], #[Value.slice none 0 0], []⟩).memory :=
  laid_met0 os _
theorem reads (os : Os) {H : Type} (enc : TypeId × Value → H) : ∃ places, DataW.whole enc Tryz.prog ((laidWorld os).forCall (fun _ _ => 0) ⟨#[], #[Value.slice none 0 0], []⟩).memory Tryz.f5.params.toList Rows.datagroupsOpensSpec.vars false #[Value.slice none 0 0].toList 8 = some ([.nil], [], places) :=
  ⟨[], by kernel_rfl⟩

theorem lifted (os : Os) (started : os.Started) (H : Type) (enc : TypeId × Value → H) (F : Stop.Interp) :
    ReturnsInHanded {} Tryz.checked os 5 .any ((OpenSpec.ofChange Rows.datagroupsOpensSpec).preRow enc Tryz.prog Tryz.f5 Rows.datagroupsOpensRow.domain false Rows.datagroupsOpensRow.laid) (((OpenSpec.ofChange Rows.datagroupsOpensSpec).at F).post enc Tryz.prog Tryz.f5 false true false false) := by
  obtain ⟨places, hx⟩ := reads os enc
  refine returnsInHanded_of_row (C := Tryz.checked) (s := OpenSpec.ofChange Rows.datagroupsOpensSpec) own started (by kernel_rfl) Tryz.func5
    (witness_row_at (enc := enc) (C := Tryz.checked) false (laidWorld os) #[Value.slice none 0 0] rfl (by kernel_rfl) (by kernel_rfl) (by kernel_rfl)
      (OpenSpec.preRow_of_cond 8 hx (by kernel_rfl) (fun k hk => by cases hk) (by kernel_rfl) (laid_met os))) ?_
  intro W base args ds gs before hval hW _ _ _ hL hsh _
  exact contract H enc W base args ds gs before hval hW hL hsh

theorem said : Rows.DatagroupsOpensSaid :=
  OpenClaim.holds_of_cond 5 Tryz.f5 rfl rfl rfl rfl rfl rfl rfl ⟨rfl, rfl, rfl, rfl, rfl⟩ rfl rfl rfl rfl rfl (by kernel_rfl) Tryz.func5 (by kernel_rfl)
    (of_decide_eq_true (by kernel_rfl)) (by unfold Func.isWrapper; first | (rw [if_pos (by decide +kernel)]; kernel_rfl) | (rw [if_neg (by decide +kernel)]; exact ⟨rfl, rfl⟩))
    (fun os started H enc _ F => by rw [OpenClaim.pre_eq_preRow]; exact lifted os started H enc F)

theorem plain (f : FuncId) (fn : Func) (hf : Tryz.pinned.checked.prog.funcNamed "traveldoc/traveldoclaw15.DatagroupsOpens" = some f) (hfn : Tryz.pinned.checked.prog.funcs[f]? = some fn) :
    false = Tryz.pinned.checked.prog.looks [] ∧ ∀ (j : Nat) t, fn.params[j]? = some t → Tryz.pinned.checked.prog.wantsStandIn t = false := by
  obtain rfl : f = 5 := Option.some.inj ((show Tryz.prog.funcNamed "traveldoc/traveldoclaw15.DatagroupsOpens" = some 5 by kernel_rfl).symm.trans hf) |>.symm
  obtain rfl : fn = Tryz.f5 := (Option.some.inj (Tryz.func5.symm.trans hfn)).symm
  refine ⟨by kernel_rfl, fun j t ht => ?_⟩
  rw [Tryz.params5] at ht
  match j, ht with
  | 0, ht => simp at ht; subst ht; exact (show Tryz.prog.wantsStandIn 27 = false by kernel_rfl)
  | j + 1, ht => simp at ht

theorem proved : Rows.DatagroupsOpensCardSaid :=
  Claim7.holds_tied_plain_at .later [] _ _ _ _ said (fun _ h => by cases h) (by kernel_rfl) (fun _ h => by cases h) datagroupsOpens_row_tie rfl ⟨rfl, rfl⟩ (by kernel_rfl) rfl plain (by kernel_rfl)
end Go.Proofs.YtnjanpmgonoeeaaGreatDoor.datagroupsOpens
