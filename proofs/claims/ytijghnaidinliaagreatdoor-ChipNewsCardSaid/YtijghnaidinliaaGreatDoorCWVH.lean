/- 'ChipNews' (traveldoclaw28.ChipNews): whatever the input (any numbers and any personalisation), the law returns true; the card. -/
import Derived.Test.YtijghnaidinliaaGreatDoorCW12
import Derived.Test.YtijghnaidinliaaGreatDoorCWVF
set_option linter.unusedVariables false
set_option linter.unusedSimpArgs false
set_option maxRecDepth 100000
namespace Go.Proofs.YtijghnaidinliaaGreatDoor.chipNews
open Go Go.ChangeShapes Go.WideShapes Go.ChangeAt Go.RowKit Tdoc
theorem own:ownKnob Tryz.prog.godebug=none:=by kernel_rfl
theorem laid:laidOutB Tryz.prog=true:=by kernel_rfl
theorem hb:Tryz.prog.underlying 4=some .bool:=by kernel_rfl
theorem hi:Tryz.prog.underlying 3=some (.int .i64):=by kernel_rfl
theorem his:Tryz.prog.underlying 28=some (.slice 3):=by kernel_rfl
theorem hic:Tryz.prog.cellsOf 3=1:=by kernel_rfl
theorem contract (H:Type) (enc:TypeId×Value→H) (W:World) (base:Nat) (args:Array Value) (ds gs:List (DataW H)) (before:List MemPlace)
  (hval:∀ (j:Nat) t v,Tryz.f4.params[j]?=some t→args[j]?=some v→Value.okWide Tryz.prog W .any base t v)
  (hW:DataW.Whole enc Tryz.prog Tryz.f4.params.toList Rows.chipNewsSpec.vars false W args.toList ds gs before) (hL:laidMetH Tryz.prog Rows.chipNewsRow.laid W) (hsh:W.ShapedOpen Tryz.prog) :
  Calls Tryz.prog 4 args W fun e W'=>∃ v,e=.returned v∧Rows.chipNewsSpec.post enc Tryz.prog Tryz.f4 false true false false W args v W':=by
 have hW':=hW
 obtain ⟨p,q,hA,hV,hbe,hfz,hnd⟩:=hW
 rw [Tryz.params4] at hA hval
 obtain ⟨v0,vs0,d0,ds0,p0,q0,hargs,rfl,rfl,h0,r0⟩:=trodAll_cons hA
 obtain ⟨v1,vs1,d1,ds1,p1,q1,rfl,rfl,rfl,h1,r1⟩:=trodAll_cons r0
 obtain ⟨rfl,rfl,rfl⟩:=trodAll_nil r1
 obtain rfl:args = #[v0,v1]:=by cases args;simp_all
 obtain ⟨rfl,rfl⟩:=trodVars_none hV
 obtain ⟨x0,l0,m0,e0⟩:=qRz his hi hic (hval 0 _ v0 rfl rfl) h0
 obtain ⟨x1,l1,e1⟩:=qUk (hval 1 _ v1 rfl rfl) h1
 refine (qSd (tabOk hL) (chipNews_spec x0 x1 l1) rfl (fun j x v hx hv=>?_)).mono fun e W' ⟨he,hb'⟩=>⟨_,he,qUp laid (by kernel_rfl) (by kernel_rfl) hb rfl hW' rfl hb'⟩
 match j,hx,hv with
 | 0,hx,hv=>simp at hx hv;subst hx;subst hv;exact e0
 | 1,hx,hv=>simp at hx hv;subst hx;subst hv;exact e1
 | j+2,hx,hv=>simp at hx
theorem qUq (os:Os):laidMet Tryz.prog Rows.chipNewsRow.laid ((laidWorld os).forCall (fun _ _=>0) ⟨#[],#[Value.slice none 0 0,Value.agg #[Value.slice none 0 0,Value.slice none 0 0,Value.string .empty,Value.slice none 0 0,Value.slice none 0 0,Value.slice none 0 0,Value.int .i64 0,Value.int .i64 0,Value.bool false,Value.slice none 0 0,Value.int .i64 0,Value.int .i64 0,Value.slice none 0 0,Value.int .i64 0,Value.slice none 0 0,Value.slice none 0 0]],[]⟩).memory :=
 qSe os _
theorem reads (os:Os) {H:Type} (enc:TypeId×Value→H):∃ places,DataW.whole enc Tryz.prog ((laidWorld os).forCall (fun _ _=>0) ⟨#[],#[Value.slice none 0 0,Value.agg #[Value.slice none 0 0,Value.slice none 0 0,Value.string .empty,Value.slice none 0 0,Value.slice none 0 0,Value.slice none 0 0,Value.int .i64 0,Value.int .i64 0,Value.bool false,Value.slice none 0 0,Value.int .i64 0,Value.int .i64 0,Value.slice none 0 0,Value.int .i64 0,Value.slice none 0 0,Value.slice none 0 0]],[]⟩).memory Tryz.f4.params.toList Rows.chipNewsSpec.vars false (#[Value.slice none 0 0,Value.agg #[Value.slice none 0 0,Value.slice none 0 0,Value.string .empty,Value.slice none 0 0,Value.slice none 0 0,Value.slice none 0 0,Value.int .i64 0,Value.int .i64 0,Value.bool false,Value.slice none 0 0,Value.int .i64 0,Value.int .i64 0,Value.slice none 0 0,Value.int .i64 0,Value.slice none 0 0,Value.slice none 0 0]]).toList 8=some ([.nil,.agg [.agg [.nil,.nil],.lit (.string []),.nil,.nil,.nil,.lit (.int .i64 0),.lit (.int .i64 0),.lit (.bool false),.nil,.lit (.int .i64 0),.lit (.int .i64 0),.agg [.nil,.lit (.int .i64 0)],.nil,.nil]],[],places) :=
 ⟨[],by kernel_rfl⟩
theorem lifted (os:Os) (started:os.Started) (H:Type) (enc:TypeId×Value→H) (F:Stop.Interp) :
  ReturnsInHanded {} Tryz.checked os 4 .any ((OpenSpec.ofChange Rows.chipNewsSpec).preRow enc Tryz.prog Tryz.f4 Rows.chipNewsRow.domain false Rows.chipNewsRow.laid) (((OpenSpec.ofChange Rows.chipNewsSpec).at F).post enc Tryz.prog Tryz.f4 false true false false):=by
 obtain ⟨places,hx⟩:=reads os enc
 refine returnsInHanded_of_row (C:=Tryz.checked) (s:=OpenSpec.ofChange Rows.chipNewsSpec) own started (by kernel_rfl) Tryz.func4
  (witness_row_at (enc:=enc) (C:=Tryz.checked) false (laidWorld os) (#[Value.slice none 0 0,Value.agg #[Value.slice none 0 0,Value.slice none 0 0,Value.string .empty,Value.slice none 0 0,Value.slice none 0 0,Value.slice none 0 0,Value.int .i64 0,Value.int .i64 0,Value.bool false,Value.slice none 0 0,Value.int .i64 0,Value.int .i64 0,Value.slice none 0 0,Value.int .i64 0,Value.slice none 0 0,Value.slice none 0 0]]) rfl (by kernel_rfl) (by kernel_rfl) (by kernel_rfl)
   (OpenSpec.preRow_of_cond 8 hx (by kernel_rfl) (fun k hk=>by cases hk) (by kernel_rfl) (qUq os))) ?_
 intro W base args ds gs before hval hW _ _ _ hL hsh _
 exact contract H enc W base args ds gs before hval hW hL hsh
theorem clos:Tryz.prog.closure 4=[4,5,6,7,17,39,73,30,62,31,113,8,40,74,114,115,19,21,46,85,116,117,144,87,88,86,118,47,89,119,121,120,110,142,143,169,212,213,91,122,90,48,49,92,123,124,93,126,125,145,12,33,65,66,111,34,67,43,76,44,77,78,36,79,80,81,82,26,59,100,101,58,29,24,56,97,128,112,13,35,68,69,70,71,61,102,103,131,104,105,132,133,147,170,214,171,216,215,266,172,174,218,175,148,173,217,176,149,177,178,219,267,226,275,276,278,206,259,277,312,313,314,150,179,191,220,251,221,268,269,250,309,249,181,180,222,270,271,310,223,272,311,160,203,209,205,257,306,307,308,258,264,260,263,262,261,256,161,207,211,204,162,208,224,225,273,274,135,182,151,156,197,252,301,304,254,253,302,303,183,227,228,184,230,229,279,185,186,231,280,152,187,194,232,281,282,300,283,284,159,201,202,255,305,233,188,234,285,286,235,193,245,246,247,236,287,315,316,327,288,289,290,317,328,330,291,318,329,319,320,248,321,292,322,323,293,324,294,237,153,189,157,199,198,200,238,239,240,295,196,296,325,190,241,297,326,298,242,243,299,192,244,154,195,155,106,134,136,158,137,139,138,140,163,164,107,108,141,165,210,265,167,168,166,15,18,41,75,42,20,22,28,60,50,94,127,51,95,96,10,32,63,64,109,45,84,83,23,52,53,54,55,25,57,98,129,99,130,146,14,37,72,16,38,27]:=by kernel_rfl
theorem qUw:Tryz.prog.inPlace 4=Rows.chipNewsRow.inPlace:=by unfold Program.inPlace;rw [clos];kernel_rfl
theorem qIu:Tryz.prog.unfollowed 4=true:=by unfold Program.unfollowed;rw [clos];kernel_rfl
theorem qSr:Tryz.prog.recurses 4=true:=by unfold Program.recurses;rw [qIu];rfl
theorem qXz:Tryz.prog.varsNamed 4=Rows.chipNewsRow.named:=by unfold Program.varsNamed;rw [clos];kernel_rfl
theorem closed:joinedFacts Tryz.prog 4 Tryz.f4 (OpenSpec.ofChange Rows.chipNewsSpec).bare Rows.chipNewsRow=true:=by
 unfold joinedFacts
 rw [qUw,qIu,qSr,qXz]
 kernel_rfl
theorem said:Rows.ChipNewsSaid :=
 OpenClaim.holds_of_cond 4 Tryz.f4 rfl rfl rfl rfl rfl rfl rfl ⟨rfl,rfl,rfl,rfl,rfl⟩ rfl rfl rfl rfl rfl (by kernel_rfl) Tryz.func4 closed
  (of_decide_eq_true (by kernel_rfl)) (by unfold Func.isWrapper;first | (rw [if_pos (by decide +kernel)];kernel_rfl) | (rw [if_neg (by decide +kernel)];exact ⟨rfl,rfl⟩))
  (fun os started H enc _ F=>by rw [OpenClaim.pre_eq_preRow];exact lifted os started H enc F)
theorem plain (f:FuncId) (fn:Func) (hf:Tryz.pinned.checked.prog.funcNamed "traveldoc/traveldoclaw28.ChipNews" = some f) (hfn:Tryz.pinned.checked.prog.funcs[f]?=some fn) :
  false=Tryz.pinned.checked.prog.looks []∧∀ (j:Nat) t,fn.params[j]?=some t→Tryz.pinned.checked.prog.wantsStandIn t=false:=by
 obtain rfl:f=4:=Option.some.inj ((show Tryz.prog.funcNamed "traveldoc/traveldoclaw28.ChipNews" = some 4 by kernel_rfl).symm.trans hf) |>.symm
 obtain rfl:fn=Tryz.f4:=(Option.some.inj (Tryz.func4.symm.trans hfn)).symm
 refine ⟨by kernel_rfl,fun j t ht=>?_⟩
 rw [Tryz.params4] at ht
 match j,ht with
 | 0,ht=>simp at ht;subst ht;exact (show Tryz.prog.wantsStandIn 28=false by kernel_rfl)
 | 1,ht=>simp at ht;subst ht;exact (show Tryz.prog.wantsStandIn 50=false by kernel_rfl)
 | j+2,ht=>simp at ht
theorem goesBy_of {c:OpenClaim} {P:Program} {f:FuncId} (hst:c.start=.entering) (hf:P.funcNamed c.func=some f) (h1:(P.closure f).any (fun g=>(P.funcs[g]?).any Func.goes)=false) (h2:P.funcs.any Func.goes=false):false=c.goesBy P:=by
 have hg:P.goes f=false:=by unfold Program.goes;rw [h1,h2,Bool.and_false,Bool.or_false]
 unfold OpenClaim.goesBy Program.goesAt Program.goesFrom
 rw [hf,hst,Option.any_some,hg]
 rfl
theorem qYb:(Tryz.prog.closure 4).any (fun g=>(Tryz.prog.funcs[g]?).any Func.goes)=false:=by rw [clos];kernel_rfl
theorem qYa:Tryz.prog.funcs.any Func.goes=false:=by kernel_rfl
theorem qZj:false=Rows.chipNewsRow.goesBy Tryz.pinned.checked.prog:=goesBy_of rfl (show Tryz.prog.funcNamed "traveldoc/traveldoclaw28.ChipNews" = some 4 by kernel_rfl) qYb qYa
theorem fWf:Rows.chipNewsRow.wfByText (OpenSpec.ofChange Rows.chipNewsSpec)=true:=by kernel_rfl
theorem proved:Rows.ChipNewsCardSaid :=
 Claim7.holds_tied_plain_at .later [] _ _ _ _ said (fun _ h=>by cases h) fWf (fun _ h=>by cases h) chipNews_row_tie rfl ⟨rfl,rfl⟩ (by kernel_rfl) rfl plain qZj
end Go.Proofs.YtijghnaidinliaaGreatDoor.chipNews
