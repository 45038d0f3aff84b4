/- 'IssuanceTrusted' (traveldoclaw39.IssuanceTrusted): whatever the input, the law returns true; the card. -/
import Derived.Test.YtelocejblpajcaaGreatDoorTR16
import Derived.Test.YtelocejblpajcaaGreatDoorTRVD
set_option linter.unusedVariables false
set_option linter.unusedSimpArgs false
set_option maxRecDepth 100000
namespace Go.Proofs.YtelocejblpajcaaGreatDoor.issuanceTrusted
open Go Go.ChangeShapes Go.WideShapes Go.ChangeAt Go.RowKit Tdoc
theorem own:ownKnob Tryz.prog.godebug=none:=by kernel_rfl
theorem laid:laidOutB Tryz.prog=true:=by kernel_rfl
theorem hb:Tryz.prog.underlying 4=some .bool:=by kernel_rfl
theorem hi:Tryz.prog.underlying 3=some (.int .i64):=by kernel_rfl
theorem his:Tryz.prog.underlying 22=some (.slice 3):=by kernel_rfl
theorem hic:Tryz.prog.cellsOf 3=1:=by kernel_rfl
theorem contract (H:Type) (enc:TypeId×Value→H) (W:World) (base:Nat) (args:Array Value) (ds gs:List (DataW H)) (before:List MemPlace)
  (hval:∀ (j:Nat) t v,Tryz.f5.params[j]?=some t→args[j]?=some v→Value.okWide Tryz.prog W .any base t v)
  (hW:DataW.Whole enc Tryz.prog Tryz.f5.params.toList Rows.issuanceTrustedSpec.vars false W args.toList ds gs before) (hL:laidMetH Tryz.prog Rows.issuanceTrustedRow.laid W) (hsh:W.ShapedOpen Tryz.prog) :
  Calls Tryz.prog 5 args W fun e W'=>∃ v,e=.returned v∧Rows.issuanceTrustedSpec.post enc Tryz.prog Tryz.f5 false true false false W args v W':=by
 have hW':=hW
 obtain ⟨p,q,hA,hV,hbe,hfz,hnd⟩:=hW
 rw [Tryz.params5] at hA hval
 obtain ⟨v0,vs0,d0,ds0,p0,q0,hargs,rfl,rfl,h0,r0⟩:=trodAll_cons hA
 obtain ⟨rfl,rfl,rfl⟩:=trodAll_nil r0
 obtain rfl:args = #[v0]:=by cases args;simp_all
 obtain ⟨rfl,rfl⟩:=trodVars_none hV
 obtain ⟨x0,l0,m0,e0⟩:=vDg his hi hic (hval 0 _ v0 rfl rfl) h0
 refine (vDn (tabOk hL hsh) (issuanceTrusted_spec x0) rfl (fun j x v hx hv=>?_)).mono fun e W' ⟨he,hb'⟩=>⟨_,he,vHc laid (by kernel_rfl) (by kernel_rfl) hb rfl hW' rfl hb'⟩
 match j,hx,hv with
 | 0,hx,hv=>simp at hx hv;subst hx;subst hv;exact e0
 | j+1,hx,hv=>simp at hx
theorem vHd (os:Os):laidMet Tryz.prog Rows.issuanceTrustedRow.laid ((laidWorld os).forCall (fun _ _=>0) ⟨#[],#[Value.slice none 0 0],[]⟩).memory :=
 vDo os _
theorem reads (os:Os) {H:Type} (enc:TypeId×Value→H):∃ places,DataW.whole enc Tryz.prog ((laidWorld os).forCall (fun _ _=>0) ⟨#[],#[Value.slice none 0 0],[]⟩).memory Tryz.f5.params.toList Rows.issuanceTrustedSpec.vars false #[Value.slice none 0 0].toList 8=some ([.nil],[],places) :=
 ⟨[],by kernel_rfl⟩
theorem lifted (os:Os) (started:os.Started) (H:Type) (enc:TypeId×Value→H) (F:Stop.Interp) :
  ReturnsInHanded {} Tryz.checked os 5 .any ((OpenSpec.ofChange Rows.issuanceTrustedSpec).preRow enc Tryz.prog Tryz.f5 Rows.issuanceTrustedRow.domain false Rows.issuanceTrustedRow.laid) (((OpenSpec.ofChange Rows.issuanceTrustedSpec).at F).post enc Tryz.prog Tryz.f5 false true false false):=by
 obtain ⟨places,hx⟩:=reads os enc
 refine returnsInHanded_of_row (C:=Tryz.checked) (s:=OpenSpec.ofChange Rows.issuanceTrustedSpec) own started (by kernel_rfl) Tryz.func5
  (witness_row_at (enc:=enc) (C:=Tryz.checked) false (laidWorld os) #[Value.slice none 0 0] rfl (by kernel_rfl) (by kernel_rfl) (by kernel_rfl)
   (OpenSpec.preRow_of_cond 8 hx (by kernel_rfl) (fun k hk=>by cases hk) (by kernel_rfl) (vHd os))) ?_
 intro W base args ds gs before hval hW _ _ _ hL hsh _
 exact contract H enc W base args ds gs before hval hW hL hsh
theorem clos:Tryz.prog.closure 5=[5,6,7,15,65,66,67,86,161,160,245,246,196,300,281,349,351,353,350,388,352,389,390,391,247,73,91,172,173,268,337,338,153,154,241,155,242,243,322,275,179,343,181,276,344,345,385,277,346,386,185,284,285,68,23,9,19,20,10,26,24,27,81,80,114,208,209,11,28,29,30,82,83,84,31,85,32,87,162,248,249,324,250,88,163,164,251,325,252,326,368,367,369,371,396,370,373,398,408,380,405,397,407,411,399,409,412,401,400,372,253,327,374,254,328,255,329,375,402,410,256,257,258,260,333,330,376,165,259,331,332,261,334,377,335,378,262,263,264,166,265,336,379,403,404,167,266,168,169,170,89,33,90,171,267,34,93,174,269,92,94,175,176,270,339,381,271,340,177,273,272,341,95,101,188,287,354,292,355,289,356,288,189,290,291,178,274,342,382,383,384,96,35,97,180,187,286,98,182,104,190,278,279,280,347,348,387,406,183,184,282,283,99,186,100,36,102,103,105,106,191,38,111,203,37,107,192,293,357,358,392,295,296,294,359,193,194,297,360,361,298,363,362,393,108,195,299,109,197,110,198,199,200,201,202,17,21,74,75,76,156,244,323,366,157,77,158,78,22,79,151,227,69,312,225,310,228,128,206,313,229,130,230,314,315,231,232,316,159,236,235,205,204,301,302,303,364,207,304]:=by kernel_rfl
theorem vHi:Tryz.prog.inPlace 5=Rows.issuanceTrustedRow.inPlace:=by unfold Program.inPlace;rw [clos];kernel_rfl
theorem qOb:Tryz.prog.unfollowed 5=true:=by unfold Program.unfollowed;rw [clos];kernel_rfl
theorem vEb:Tryz.prog.recurses 5=true:=by unfold Program.recurses;rw [qOb];rfl
theorem vMd:Tryz.prog.varsNamed 5=Rows.issuanceTrustedRow.named:=by unfold Program.varsNamed;rw [clos];kernel_rfl
theorem closed:joinedFacts Tryz.prog 5 Tryz.f5 (OpenSpec.ofChange Rows.issuanceTrustedSpec).bare Rows.issuanceTrustedRow=true:=by
 unfold joinedFacts
 rw [vHi,qOb,vEb,vMd]
 kernel_rfl
theorem said:Rows.IssuanceTrustedSaid :=
 OpenClaim.holds_of_cond 5 Tryz.f5 rfl rfl rfl rfl rfl rfl rfl ⟨rfl,rfl,rfl,rfl,rfl⟩ rfl rfl rfl rfl rfl (by kernel_rfl) Tryz.func5 closed
  (of_decide_eq_true (by kernel_rfl)) (by unfold Func.isWrapper;first | (rw [if_pos (by decide +kernel)];kernel_rfl) | (rw [if_neg (by decide +kernel)];exact ⟨rfl,rfl⟩))
  (fun os started H enc _ F=>by rw [OpenClaim.pre_eq_preRow];exact lifted os started H enc F)
theorem plain (f:FuncId) (fn:Func) (hf:Tryz.pinned.checked.prog.funcNamed "traveldoc/traveldoclaw39.IssuanceTrusted" = some f) (hfn:Tryz.pinned.checked.prog.funcs[f]?=some fn) :
  false=Tryz.pinned.checked.prog.looks []∧∀ (j:Nat) t,fn.params[j]?=some t→Tryz.pinned.checked.prog.wantsStandIn t=false:=by
 obtain rfl:f=5:=Option.some.inj ((show Tryz.prog.funcNamed "traveldoc/traveldoclaw39.IssuanceTrusted" = some 5 by kernel_rfl).symm.trans hf) |>.symm
 obtain rfl:fn=Tryz.f5:=(Option.some.inj (Tryz.func5.symm.trans hfn)).symm
 refine ⟨by kernel_rfl,fun j t ht=>?_⟩
 rw [Tryz.params5] at ht
 match j,ht with
 | 0,ht=>simp at ht;subst ht;exact (show Tryz.prog.wantsStandIn 22=false by kernel_rfl)
 | j+1,ht=>simp at ht
theorem goesBy_of {c:OpenClaim} {P:Program} {f:FuncId} (hst:c.start=.entering) (hf:P.funcNamed c.func=some f) (h1:(P.closure f).any (fun g=>(P.funcs[g]?).any Func.goes)=false) (h2:P.funcs.any Func.goes=false):false=c.goesBy P:=by
 have hg:P.goes f=false:=by unfold Program.goes;rw [h1,h2,Bool.and_false,Bool.or_false]
 unfold OpenClaim.goesBy Program.goesAt Program.goesFrom
 rw [hf,hst,Option.any_some,hg]
 rfl
theorem vMf:(Tryz.prog.closure 5).any (fun g=>(Tryz.prog.funcs[g]?).any Func.goes)=false:=by rw [clos];kernel_rfl
theorem vMe:Tryz.prog.funcs.any Func.goes=false:=by kernel_rfl
theorem vNh:false=Rows.issuanceTrustedRow.goesBy Tryz.pinned.checked.prog:=goesBy_of rfl (show Tryz.prog.funcNamed "traveldoc/traveldoclaw39.IssuanceTrusted" = some 5 by kernel_rfl) vMf vMe
theorem fWf:Rows.issuanceTrustedRow.wfByText (OpenSpec.ofChange Rows.issuanceTrustedSpec)=true:=by kernel_rfl
theorem proved:Rows.IssuanceTrustedCardSaid :=
 Claim7.holds_tied_plain_at .later [] _ _ _ _ said (fun _ h=>by cases h) fWf (fun _ h=>by cases h) issuanceTrusted_row_tie rfl ⟨rfl,rfl⟩ (by kernel_rfl) rfl plain vNh
end Go.Proofs.YtelocejblpajcaaGreatDoor.issuanceTrusted
