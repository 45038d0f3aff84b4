/- 'DatagroupsReturns' (traveldoclaw15.DatagroupsReturns): whatever the input, the law returns true; the card. -/
import Derived.Test.YtnjanpmgonoeeaaGreatDoorKY6
import Derived.Test.YtnjanpmgonoeeaaGreatDoorKYV9
set_option linter.unusedVariables false
set_option linter.unusedSimpArgs false
set_option maxRecDepth 100000
namespace Go.Proofs.YtnjanpmgonoeeaaGreatDoor.datagroupsReturns
open Go Go.ChangeShapes Go.WideShapes Go.ChangeAt Go.RowKit Tdoc
theorem own:ownKnob Tryz.prog.godebug=none:=by kernel_rfl
theorem laid:laidOutB Tryz.prog=true:=by kernel_rfl
theorem hb:Tryz.prog.underlying 4=some .bool:=by kernel_rfl
theorem hi:Tryz.prog.underlying 3=some (.int .i64):=by kernel_rfl
theorem his:Tryz.prog.underlying 22=some (.slice 3):=by kernel_rfl
theorem hic:Tryz.prog.cellsOf 3=1:=by kernel_rfl
theorem contract (H:Type) (enc:TypeId×Value→H) (W:World) (base:Nat) (args:Array Value) (ds gs:List (DataW H)) (before:List MemPlace)
  (hval:∀ (j:Nat) t v,Tryz.f7.params[j]?=some t→args[j]?=some v→Value.okWide Tryz.prog W .any base t v)
  (hW:DataW.Whole enc Tryz.prog Tryz.f7.params.toList Rows.datagroupsReturnsSpec.vars false W args.toList ds gs before) (hL:laidMetH Tryz.prog Rows.datagroupsReturnsRow.laid W) (hsh:W.ShapedOpen Tryz.prog) :
  Calls Tryz.prog 7 args W fun e W'=>∃ v,e=.returned v∧Rows.datagroupsReturnsSpec.post enc Tryz.prog Tryz.f7 false true false false W args v W':=by
 have hW':=hW
 obtain ⟨p,q,hA,hV,hbe,hfz,hnd⟩:=hW
 rw [Tryz.params7] at hA hval
 obtain ⟨v0,vs0,d0,ds0,p0,q0,hargs,rfl,rfl,h0,r0⟩:=trodAll_cons hA
 obtain ⟨v1,vs1,d1,ds1,p1,q1,rfl,rfl,rfl,h1,r1⟩:=trodAll_cons r0
 obtain ⟨rfl,rfl,rfl⟩:=trodAll_nil r1
 obtain rfl:args = #[v0,v1]:=by cases args;simp_all
 obtain ⟨rfl,rfl⟩:=trodVars_none hV
 obtain ⟨x0,l0,m0,e0⟩:=open_nums his hi hic (hval 0 _ v0 rfl rfl) h0
 obtain ⟨x1,l1,e1⟩:=open_num hi (hval 1 _ v1 rfl rfl) h1
 refine (law_calls (tabOk hL hsh) (datagroupsReturns_spec x0 (by have:=m0;unfold maxLen at this;omega) x1) rfl (fun j x v hx hv=>?_)).mono fun e W' ⟨he,hb'⟩=>⟨_,he,law_post laid (by kernel_rfl) (by kernel_rfl) hb rfl hW' rfl hb'⟩
 match j,hx,hv with
 | 0,hx,hv=>simp at hx hv;subst hx;subst hv;exact e0
 | 1,hx,hv=>simp at hx hv;subst hx;subst hv;exact e1
 | j+2,hx,hv=>simp at hx
theorem laid_met (os:Os):laidMet Tryz.prog Rows.datagroupsReturnsRow.laid ((laidWorld os).forCall (fun _ _=>0) ⟨#[],#[Value.slice none 0 0,Value.int .i64 0],[]⟩).memory :=
 laid_met0 os _
theorem reads (os:Os) {H:Type} (enc:TypeId×Value→H):∃ places,DataW.whole enc Tryz.prog ((laidWorld os).forCall (fun _ _=>0) ⟨#[],#[Value.slice none 0 0,Value.int .i64 0],[]⟩).memory Tryz.f7.params.toList Rows.datagroupsReturnsSpec.vars false #[Value.slice none 0 0,Value.int .i64 0].toList 8=some ([.nil,.lit (.int .i64 0)],[],places) :=
 ⟨[],by kernel_rfl⟩
theorem lifted (os:Os) (started:os.Started) (H:Type) (enc:TypeId×Value→H) (F:Stop.Interp) :
  ReturnsInHanded {} Tryz.checked os 7 .any ((OpenSpec.ofChange Rows.datagroupsReturnsSpec).preRow enc Tryz.prog Tryz.f7 Rows.datagroupsReturnsRow.domain false Rows.datagroupsReturnsRow.laid) (((OpenSpec.ofChange Rows.datagroupsReturnsSpec).at F).post enc Tryz.prog Tryz.f7 false true false false):=by
 obtain ⟨places,hx⟩:=reads os enc
 refine returnsInHanded_of_row (C:=Tryz.checked) (s:=OpenSpec.ofChange Rows.datagroupsReturnsSpec) own started (by kernel_rfl) Tryz.func7
  (witness_row_at (enc:=enc) (C:=Tryz.checked) false (laidWorld os) #[Value.slice none 0 0,Value.int .i64 0] rfl (by kernel_rfl) (by kernel_rfl) (by kernel_rfl)
   (OpenSpec.preRow_of_cond 8 hx (by kernel_rfl) (fun k hk=>by cases hk) (by kernel_rfl) (laid_met os))) ?_
 intro W base args ds gs before hval hW _ _ _ hL hsh _
 exact contract H enc W base args ds gs before hval hW hL hsh
theorem clos:Tryz.prog.closure 7=[7,8,9,50,106,66,127,94,160,92,159,228,161,229,262,51,87,15,58,116,180,235,236,237,200,59,10,17,12,55,60,21,61,63,62,117,181,182,238,118,18,64,112,19,20,43,98,97,26,65,119,120,183,239,264,277,265,184,221,255,254,256,258,272,257,260,274,286,271,284,273,285,289,278,287,290,280,279,259,185,225,224,152,220,186,240,266,281,288,187,188,189,191,244,241,267,121,190,242,243,192,245,268,246,269,193,194,195,122,196,247,270,282,283,123,197,124,125,126,38,88,89,150,90,151,219,218,253,153,154,156,223,222,261,155,226,28,68,69,128,198,248,249,129,199,164,70,131,130,201,39,91,157,158,227,165,30,73,74,134,202,136,135,203,40,93,32,76,137,204,250,209,251,163,230,231,263,275,276,206,252,205,138,207,208,96,41,95,162,42,44,99,45,100,166,167,168,175,169,232,170,233,171,174,172,101,102,103,105,104,173,46,47,34,48,49]:=by kernel_rfl
theorem fInPlace:Tryz.prog.inPlace 7=Rows.datagroupsReturnsRow.inPlace:=by unfold Program.inPlace;rw [clos];kernel_rfl
theorem fUnfollowed:Tryz.prog.unfollowed 7=true:=by unfold Program.unfollowed;rw [clos];kernel_rfl
theorem fRecurses:Tryz.prog.recurses 7=true:=by unfold Program.recurses;rw [fUnfollowed];rfl
theorem fNamed:Tryz.prog.varsNamed 7=Rows.datagroupsReturnsRow.named:=by unfold Program.varsNamed;rw [clos];kernel_rfl
theorem closed:joinedFacts Tryz.prog 7 Tryz.f7 (OpenSpec.ofChange Rows.datagroupsReturnsSpec).bare Rows.datagroupsReturnsRow=true:=by
 unfold joinedFacts
 rw [fInPlace,fUnfollowed,fRecurses,fNamed]
 kernel_rfl
theorem said:Rows.DatagroupsReturnsSaid :=
 OpenClaim.holds_of_cond 7 Tryz.f7 rfl rfl rfl rfl rfl rfl rfl ⟨rfl,rfl,rfl,rfl,rfl⟩ rfl rfl rfl rfl rfl (by kernel_rfl) Tryz.func7 closed
  (of_decide_eq_true (by kernel_rfl)) (by unfold Func.isWrapper;first | (rw [if_pos (by decide +kernel)];kernel_rfl) | (rw [if_neg (by decide +kernel)];exact ⟨rfl,rfl⟩))
  (fun os started H enc _ F=>by rw [OpenClaim.pre_eq_preRow];exact lifted os started H enc F)
theorem plain (f:FuncId) (fn:Func) (hf:Tryz.pinned.checked.prog.funcNamed "traveldoc/traveldoclaw15.DatagroupsReturns" = some f) (hfn:Tryz.pinned.checked.prog.funcs[f]?=some fn) :
  false=Tryz.pinned.checked.prog.looks []∧∀ (j:Nat) t,fn.params[j]?=some t→Tryz.pinned.checked.prog.wantsStandIn t=false:=by
 obtain rfl:f=7:=Option.some.inj ((show Tryz.prog.funcNamed "traveldoc/traveldoclaw15.DatagroupsReturns" = some 7 by kernel_rfl).symm.trans hf) |>.symm
 obtain rfl:fn=Tryz.f7:=(Option.some.inj (Tryz.func7.symm.trans hfn)).symm
 refine ⟨by kernel_rfl,fun j t ht=>?_⟩
 rw [Tryz.params7] at ht
 match j,ht with
 | 0,ht=>simp at ht;subst ht;exact (show Tryz.prog.wantsStandIn 22=false by kernel_rfl)
 | 1,ht=>simp at ht;subst ht;exact (show Tryz.prog.wantsStandIn 3=false by kernel_rfl)
 | j+2,ht=>simp at ht
theorem proved:Rows.DatagroupsReturnsCardSaid :=
 Claim7.holds_tied_plain_at .later [] _ _ _ _ said (fun _ h=>by cases h) (by kernel_rfl) (fun _ h=>by cases h) datagroupsReturns_row_tie rfl ⟨rfl,rfl⟩ (by kernel_rfl) rfl plain (by kernel_rfl)
end Go.Proofs.YtnjanpmgonoeeaaGreatDoor.datagroupsReturns
