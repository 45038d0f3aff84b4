/- 'ConsoleReads' (traveldoclaw45.ConsoleReads): whatever the input, the law returns true; the card. Printed by tools/gen_sv.py. -/
import Derived.Test.YtlfiejdnlcbpgaaGreatDoorCN15
import Derived.Test.YtlfiejdnlcbpgaaGreatDoorCNSV
import Derived.Test.YtlfiejdnlcbpgaaGreatDoorCNSX
import Derived.Test.YtlfiejdnlcbpgaaGreatDoorCNSZ
set_option linter.unusedVariables false
set_option linter.unusedSimpArgs false
set_option maxRecDepth 100000
namespace Go.Proofs.YtlfiejdnlcbpgaaGreatDoor.consoleReads
open Go Go.ChangeShapes Go.WideShapes Go.ChangeAt Go.RowKit Tdoc
theorem own:ownKnob Tryz.prog.godebug=none:=by kernel_rfl
theorem laid:laidOutB Tryz.prog=true:=qZj
theorem hb:Tryz.prog.underlying 4=some .bool:=by kernel_rfl
theorem hi:Tryz.prog.underlying 3=some (.int .i64):=by kernel_rfl
theorem his:Tryz.prog.underlying 23=some (.slice 3):=by kernel_rfl
theorem hy:Tryz.prog.underlying 5=some (.int .u8):=by kernel_rfl
theorem hys:Tryz.prog.underlying 98=some (.slice 5):=by kernel_rfl
theorem hs:Tryz.prog.underlying 9=some .string:=by kernel_rfl
theorem hyc:Tryz.prog.cellsOf 5=1:=by kernel_rfl
theorem hic:Tryz.prog.cellsOf 3=1:=by kernel_rfl
theorem contract (H:Type) (enc:TypeId×Value→H) (W:World) (base:Nat) (args:Array Value) (ds gs:List (DataW H)) (before:List MemPlace)
  (hval:∀ (j:Nat) t v,Tryz.f3.params[j]?=some t→args[j]?=some v→Value.okWide Tryz.prog W .any base t v)
  (hW:DataW.Whole enc Tryz.prog Tryz.f3.params.toList Rows.consoleReadsSpec.vars false W args.toList ds gs before) (hL:laidMetH Tryz.prog Rows.consoleReadsRow.laid W) (hsh:W.ShapedOpen Tryz.prog) :
  Calls Tryz.prog 3 args W fun e W'=>∃ v,e=.returned v∧Rows.consoleReadsSpec.post enc Tryz.prog Tryz.f3 false true false false W args v W':=by
 have hW':=hW
 obtain ⟨p,q,hA,hV,hbe,hfz,hnd⟩:=hW
 rw [Tryz.params3] at hA hval
 obtain ⟨v0,vs0,d0,ds0,p0,q0,hargs,rfl,rfl,h0,r0⟩:=trodAll_cons hA
 obtain ⟨rfl,rfl,rfl⟩:=trodAll_nil r0
 obtain rfl:args = #[v0]:=by cases args;simp_all
 obtain ⟨rfl,rfl⟩:=trodVars_none hV
 obtain ⟨x0,l0,e0⟩:=vBv hs (hval 0 _ v0 rfl rfl) h0
 refine (qZh (tabOk hL hsh) (consoleReads_spec x0 (by rw [mxL] at l0;exact l0)) rfl (fun j x v hx hv=>?_)).mono fun e W' ⟨he,hb'⟩=>⟨_,he,vCi laid (by kernel_rfl) (by kernel_rfl) hb rfl hW' rfl hb'⟩
 match j,hx,hv with
 | 0,hx,hv=>simp at hx hv;subst hx;subst hv;exact e0
 | j+1,hx,hv=>simp at hx
theorem vCj (os:Os):laidMet Tryz.prog Rows.consoleReadsRow.laid ((laidWorld os).forCall (fun _ _=>0) ⟨#[],#[Value.string .empty],[]⟩).memory :=
 qZi os _
theorem reads (os:Os) {H:Type} (enc:TypeId×Value→H):∃ places,DataW.whole enc Tryz.prog ((laidWorld os).forCall (fun _ _=>0) ⟨#[],#[Value.string .empty],[]⟩).memory Tryz.f3.params.toList Rows.consoleReadsSpec.vars false (#[Value.string .empty]).toList 8=some ([.lit (.string [])],[],places) :=
 ⟨[],by kernel_rfl⟩
theorem lifted (os:Os) (started:os.Started) (H:Type) (enc:TypeId×Value→H) (F:Stop.Interp) :
  ReturnsInHanded {} Tryz.checked os 3 .any ((OpenSpec.ofChange Rows.consoleReadsSpec).preRow enc Tryz.prog Tryz.f3 Rows.consoleReadsRow.domain false Rows.consoleReadsRow.laid) (((OpenSpec.ofChange Rows.consoleReadsSpec).at F).post enc Tryz.prog Tryz.f3 false true false false):=by
 obtain ⟨places,hx⟩:=reads os enc
 refine returnsInHanded_of_row (C:=Tryz.checked) (s:=OpenSpec.ofChange Rows.consoleReadsSpec) own started (by kernel_rfl) Tryz.func3
  (witness_row_at (enc:=enc) (C:=Tryz.checked) false (laidWorld os) (#[Value.string .empty]) rfl (by kernel_rfl) (by kernel_rfl) (by kernel_rfl)
   (OpenSpec.preRow_of_cond 8 hx (by kernel_rfl) (fun k hk=>by cases hk) (by kernel_rfl) (vCj os))) ?_
 intro W base args ds gs before hval hW _ _ _ hL hsh _
 exact contract H enc W base args ds gs before hval hW hL hsh
theorem fNm:Tryz.prog.funcNamed "traveldoc/traveldoclaw45.ConsoleReads" = some 3:=funcNamed_hits (by kernel_rfl)
theorem qLk:Tryz.prog.unfollowed 3=true:=by unfold Program.unfollowed;rw [clos];kernel_rfl
theorem qZu:Tryz.prog.recurses 3=true:=by unfold Program.recurses;rw [qLk];rfl
theorem closed:joinedFacts Tryz.prog 3 Tryz.f3 (OpenSpec.ofChange Rows.consoleReadsSpec).bare Rows.consoleReadsRow=true:=by
 unfold joinedFacts
 rw [qZj,vHn,vEt,vEu,qZo,qLk,qZu,vEx,vHw,heard,enters]
 kernel_rfl
theorem said:Rows.ConsoleReadsSaid :=
 OpenClaim.holds_of_cond 3 Tryz.f3 rfl rfl rfl rfl rfl rfl rfl ⟨rfl,rfl,rfl,rfl,rfl⟩ rfl rfl rfl rfl rfl fNm Tryz.func3 closed
  (of_decide_eq_true (by kernel_rfl)) (by unfold Func.isWrapper;first | (rw [if_pos (by decide +kernel)];kernel_rfl) | (rw [if_neg (by decide +kernel)];exact ⟨rfl,rfl⟩))
  (fun os started H enc _ F=>by rw [OpenClaim.pre_eq_preRow];exact lifted os started H enc F)
theorem plain (f:FuncId) (fn:Func) (hf:Tryz.pinned.checked.prog.funcNamed "traveldoc/traveldoclaw45.ConsoleReads" = some f) (hfn:Tryz.pinned.checked.prog.funcs[f]?=some fn) :
  true=Tryz.pinned.checked.prog.looks []∧∀ (j:Nat) t,fn.params[j]?=some t→Tryz.pinned.checked.prog.wantsStandIn t=false:=by
 obtain rfl:f=3:=Option.some.inj (fNm.symm.trans hf) |>.symm
 obtain rfl:fn=Tryz.f3:=(Option.some.inj (Tryz.func3.symm.trans hfn)).symm
 refine ⟨by kernel_rfl,fun j t ht=>?_⟩
 rw [Tryz.params3] at ht
 match j,ht with
 | 0,ht=>simp at ht;subst ht;exact (show Tryz.prog.wantsStandIn 9=false by kernel_rfl)
 | j+1,ht=>simp at ht
theorem goesBy_of {c:OpenClaim} {P:Program} {f:FuncId} (hst:c.start=.entering) (hf:P.funcNamed c.func=some f) (h1:(P.closure f).any (fun g=>(P.funcs[g]?).any Func.goes)=false) (h2:P.funcs.any Func.goes=false):false=c.goesBy P:=by
 have hg:P.goes f=false:=by unfold Program.goes;rw [h1,h2,Bool.and_false,Bool.or_false]
 unfold OpenClaim.goesBy Program.goesAt Program.goesFrom
 rw [hf,hst,Option.any_some,hg]
 rfl
theorem vIh:(Tryz.prog.closure 3).any (fun g=>(Tryz.prog.funcs[g]?).any Func.goes)=false:=by rw [clos];exact vDd vDu _
theorem vJa:false=Rows.consoleReadsRow.goesBy Tryz.pinned.checked.prog:=goesBy_of rfl fNm vIh vDu
theorem fWf:Rows.consoleReadsRow.wfByText (OpenSpec.ofChange Rows.consoleReadsSpec)=true:=by kernel_rfl
theorem proved:Rows.ConsoleReadsCardSaid :=
 Claim7.holds_tied_plain_at .later [] _ _ _ _ said (fun _ h=>by cases h) fWf (fun _ h=>by cases h) consoleReads_row_tie rfl ⟨rfl,rfl⟩ (by kernel_rfl) rfl plain vJa
end Go.Proofs.YtlfiejdnlcbpgaaGreatDoor.consoleReads
