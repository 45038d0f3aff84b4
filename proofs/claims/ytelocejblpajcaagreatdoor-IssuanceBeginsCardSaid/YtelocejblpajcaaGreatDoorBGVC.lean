/- 'IssuanceBegins' (traveldoclaw39.IssuanceBegins): whatever the input, the law returns true; the card. -/
import Derived.Test.YtelocejblpajcaaGreatDoorBG16
import Derived.Test.YtelocejblpajcaaGreatDoorBGVB
set_option linter.unusedVariables false
set_option linter.unusedSimpArgs false
set_option maxRecDepth 100000
namespace Go.Proofs.YtelocejblpajcaaGreatDoor.issuanceBegins
open Go Go.ChangeShapes Go.WideShapes Go.ChangeAt Go.RowKit Tdoc
theorem own:ownKnob Tryz.prog.godebug=none:=by kernel_rfl
theorem laid:laidOutB Tryz.prog=true:=by kernel_rfl
theorem hb:Tryz.prog.underlying 4=some .bool:=by kernel_rfl
theorem hi:Tryz.prog.underlying 3=some (.int .i64):=by kernel_rfl
theorem his:Tryz.prog.underlying 22=some (.slice 3):=by kernel_rfl
theorem hs:Tryz.prog.underlying 9=some .string:=by kernel_rfl
theorem hy:Tryz.prog.underlying 5=some (.int .u8):=by kernel_rfl
theorem hys:Tryz.prog.underlying 36=some (.slice 5):=by kernel_rfl
theorem hyc:Tryz.prog.cellsOf 5=1:=by kernel_rfl
theorem hic:Tryz.prog.cellsOf 3=1:=by kernel_rfl
theorem vGo {zs:List Int} (h:∀ n,n∈zs→(Lit.int .u8 n).wf=true):∃ b:List UInt8,qHp .u8 zs=qAl b∧b.length=zs.length:=by
 induction zs with
 | nil=>exact ⟨[],rfl,rfl⟩
 | cons n zs ih =>
  obtain ⟨b,h1,h2⟩:=ih fun m hm=>h m (List.mem_cons_of_mem _ hm)
  have hn:=h n List.mem_cons_self
  have hr:0≤n∧n < 256:=by
   have hn2:(decide (IntKind.u8.min≤n)&&decide (n≤IntKind.u8.max))=true:=hn
   simp [IntKind.min,IntKind.max,IntKind.signed,IntKind.bits] at hn2
   omega
  refine ⟨UInt8.ofNat n.toNat::b,?_,by simp [h2]⟩
  have hz:((UInt8.ofNat n.toNat).toNat:Int)=n:=by
   rw [UInt8.toNat_ofNat']
   omega
  show [Dat.int .u8 n]::qHp .u8 zs=[Dat.int .u8 ((UInt8.ofNat n.toNat).toNat:Int)]::qAl b
  rw [hz,h1]
theorem contract (H:Type) (enc:TypeId×Value→H) (W:World) (base:Nat) (args:Array Value) (ds gs:List (DataW H)) (before:List MemPlace)
  (hval:∀ (j:Nat) t v,Tryz.f4.params[j]?=some t→args[j]?=some v→Value.okWide Tryz.prog W .any base t v)
  (hW:DataW.Whole enc Tryz.prog Tryz.f4.params.toList Rows.issuanceBeginsSpec.vars false W args.toList ds gs before) (hL:laidMetH Tryz.prog Rows.issuanceBeginsRow.laid W) (hsh:W.ShapedOpen Tryz.prog) :
  Calls Tryz.prog 4 args W fun e W'=>∃ v,e=.returned v∧Rows.issuanceBeginsSpec.post enc Tryz.prog Tryz.f4 false true false false W args v W':=by
 have hW':=hW
 obtain ⟨p,q,hA,hV,hbe,hfz,hnd⟩:=hW
 rw [Tryz.params4] at hA hval
 obtain ⟨v0,vs0,d0,ds0,p0,q0,hargs,rfl,rfl,h0,r0⟩:=trodAll_cons hA
 obtain ⟨v1,vs1,d1,ds1,p1,q1,rfl,rfl,rfl,h1,r1⟩:=trodAll_cons r0
 obtain ⟨v2,vs2,d2,ds2,p2,q2,rfl,rfl,rfl,h2,r2⟩:=trodAll_cons r1
 obtain ⟨v3,vs3,d3,ds3,p3,q3,rfl,rfl,rfl,h3,r3⟩:=trodAll_cons r2
 obtain ⟨rfl,rfl,rfl⟩:=trodAll_nil r3
 obtain rfl:args = #[v0,v1,v2,v3]:=by cases args;simp_all
 obtain ⟨rfl,rfl⟩:=trodVars_none hV
 obtain ⟨x0,m0,e0⟩:=vFn hs (hval 0 _ v0 rfl rfl) h0
 obtain ⟨z1,l1,m1,e1⟩:=qTd hys hy hyc (hval 1 _ v1 rfl rfl) h1
 obtain ⟨x1,hz1,n1⟩:=vGo l1
 rw [hz1] at e1
 obtain ⟨x2,l2,e2⟩:=vFo hi (hval 2 _ v2 rfl rfl) h2
 obtain ⟨x3,l3,m3,e3⟩:=qTd his hi hic (hval 3 _ v3 rfl rfl) h3
 refine (vCl (tabOk hL hsh) (issuanceBegins_spec x0 x1 x2 x3) rfl (fun j x v hx hv=>?_)).mono fun e W' ⟨he,hb'⟩=>⟨_,he,vFx laid (by kernel_rfl) (by kernel_rfl) hb rfl hW' rfl hb'⟩
 match j,hx,hv with
 | 0,hx,hv=>simp at hx hv;subst hx;subst hv;exact e0
 | 1,hx,hv=>simp at hx hv;subst hx;subst hv;exact e1
 | 2,hx,hv=>simp at hx hv;subst hx;subst hv;exact e2
 | 3,hx,hv=>simp at hx hv;subst hx;subst hv;exact e3
 | j+4,hx,hv=>simp at hx
theorem vFy (os:Os):laidMet Tryz.prog Rows.issuanceBeginsRow.laid ((laidWorld os).forCall (fun _ _=>0) ⟨#[],#[Value.string .empty,Value.slice none 0 0,Value.int .i64 0,Value.slice none 0 0],[]⟩).memory :=
 vCm os _
theorem reads (os:Os) {H:Type} (enc:TypeId×Value→H):∃ places,DataW.whole enc Tryz.prog ((laidWorld os).forCall (fun _ _=>0) ⟨#[],#[Value.string .empty,Value.slice none 0 0,Value.int .i64 0,Value.slice none 0 0],[]⟩).memory Tryz.f4.params.toList Rows.issuanceBeginsSpec.vars false #[Value.string .empty,Value.slice none 0 0,Value.int .i64 0,Value.slice none 0 0].toList 8=some ([.lit (.string []),.nil,.lit (.int .i64 0),.nil],[],places) :=
 ⟨[],by kernel_rfl⟩
theorem lifted (os:Os) (started:os.Started) (H:Type) (enc:TypeId×Value→H) (F:Stop.Interp) :
  ReturnsInHanded {} Tryz.checked os 4 .any ((OpenSpec.ofChange Rows.issuanceBeginsSpec).preRow enc Tryz.prog Tryz.f4 Rows.issuanceBeginsRow.domain false Rows.issuanceBeginsRow.laid) (((OpenSpec.ofChange Rows.issuanceBeginsSpec).at F).post enc Tryz.prog Tryz.f4 false true false false):=by
 obtain ⟨places,hx⟩:=reads os enc
 refine returnsInHanded_of_row (C:=Tryz.checked) (s:=OpenSpec.ofChange Rows.issuanceBeginsSpec) own started (by kernel_rfl) Tryz.func4
  (witness_row_at (enc:=enc) (C:=Tryz.checked) false (laidWorld os) #[Value.string .empty,Value.slice none 0 0,Value.int .i64 0,Value.slice none 0 0] rfl (by kernel_rfl) (by kernel_rfl) (by kernel_rfl)
   (OpenSpec.preRow_of_cond 8 hx (by kernel_rfl) (fun k hk=>by cases hk) (by kernel_rfl) (vFy os))) ?_
 intro W base args ds gs before hval hW _ _ _ hL hsh _
 exact contract H enc W base args ds gs before hval hW hL hsh
theorem clos:Tryz.prog.closure 4=[4,7,15,65,66,67,86,161,160,245,246,196,300,281,349,351,353,350,388,352,389,390,391,247,73,91,172,173,268,337,338,153,154,241,155,242,243,322,275,179,343,181,276,344,345,385,277,346,386,185,284,285,68,23,9,19,20,10,26,24,27,81,80,114,208,209,11,28,29,30,82,83,84,31,85,32,87,162,248,249,324,250,88,163,164,251,325,252,326,368,367,369,371,396,370,373,398,408,380,405,397,407,411,399,409,412,401,400,372,253,327,374,254,328,255,329,375,402,410,256,257,258,260,333,330,376,165,259,331,332,261,334,377,335,378,262,263,264,166,265,336,379,403,404,167,266,168,169,170,89,33,90,171,267,34,93,174,269,92,94,175,176,270,339,381,271,340,177,273,272,341,95,101,188,287,354,292,355,289,356,288,189,290,291,178,274,342,382,383,384,96,35,97,180,187,286,98,182,104,190,278,279,280,347,348,387,406,183,184,282,283,99,186,100,36,102,103,105,106,191,38,111,203,37,107,192,293,357,358,392,295,296,294,359,193,194,297,360,361,298,363,362,393,108,195,299,109,197,110,198,199,200,201,202,16,69,40,43,113,112,206,205,204,301,302,303,364,207,304,71,152,70,151,227,312,225,310,228,128,313,229,130,230,314,315,231,232,316,133,235,72,13,60,61,62,17,18]:=by kernel_rfl
theorem vGe:Tryz.prog.inPlace 4=Rows.issuanceBeginsRow.inPlace:=by unfold Program.inPlace;rw [clos];kernel_rfl
theorem qNx:Tryz.prog.unfollowed 4=true:=by unfold Program.unfollowed;rw [clos];kernel_rfl
theorem vCy:Tryz.prog.recurses 4=true:=by unfold Program.recurses;rw [qNx];rfl
theorem vKw:Tryz.prog.varsNamed 4=Rows.issuanceBeginsRow.named:=by unfold Program.varsNamed;rw [clos];kernel_rfl
theorem closed:joinedFacts Tryz.prog 4 Tryz.f4 (OpenSpec.ofChange Rows.issuanceBeginsSpec).bare Rows.issuanceBeginsRow=true:=by
 unfold joinedFacts
 rw [vGe,qNx,vCy,vKw]
 kernel_rfl
theorem said:Rows.IssuanceBeginsSaid :=
 OpenClaim.holds_of_cond 4 Tryz.f4 rfl rfl rfl rfl rfl rfl rfl ⟨rfl,rfl,rfl,rfl,rfl⟩ rfl rfl rfl rfl rfl (by kernel_rfl) Tryz.func4 closed
  (of_decide_eq_true (by kernel_rfl)) (by unfold Func.isWrapper;first | (rw [if_pos (by decide +kernel)];kernel_rfl) | (rw [if_neg (by decide +kernel)];exact ⟨rfl,rfl⟩))
  (fun os started H enc _ F=>by rw [OpenClaim.pre_eq_preRow];exact lifted os started H enc F)
theorem plain (f:FuncId) (fn:Func) (hf:Tryz.pinned.checked.prog.funcNamed "traveldoc/traveldoclaw39.IssuanceBegins" = some f) (hfn:Tryz.pinned.checked.prog.funcs[f]?=some fn) :
  false=Tryz.pinned.checked.prog.looks []∧∀ (j:Nat) t,fn.params[j]?=some t→Tryz.pinned.checked.prog.wantsStandIn t=false:=by
 obtain rfl:f=4:=Option.some.inj ((show Tryz.prog.funcNamed "traveldoc/traveldoclaw39.IssuanceBegins" = some 4 by kernel_rfl).symm.trans hf) |>.symm
 obtain rfl:fn=Tryz.f4:=(Option.some.inj (Tryz.func4.symm.trans hfn)).symm
 refine ⟨by kernel_rfl,fun j t ht=>?_⟩
 rw [Tryz.params4] at ht
 match j,ht with
 | 0,ht=>simp at ht;subst ht;exact (show Tryz.prog.wantsStandIn 9=false by kernel_rfl)
 | 1,ht=>simp at ht;subst ht;exact (show Tryz.prog.wantsStandIn 36=false by kernel_rfl)
 | 2,ht=>simp at ht;subst ht;exact (show Tryz.prog.wantsStandIn 3=false by kernel_rfl)
 | 3,ht=>simp at ht;subst ht;exact (show Tryz.prog.wantsStandIn 22=false by kernel_rfl)
 | j+4,ht=>simp at ht
theorem goesBy_of {c : OpenClaim} {P : Program} {f : FuncId} (hst : c.start = .entering) (hf : P.funcNamed c.func = some f) (h1 : (P.closure f).any (fun g => (P.funcs[g]?).any Func.goes) = false) (h2 : P.funcs.any Func.goes = false) : false = c.goesBy P := by
 have hg : P.goes f = false := by unfold Program.goes; rw [h1, h2, Bool.and_false, Bool.or_false]
 unfold OpenClaim.goesBy Program.goesAt Program.goesFrom
 rw [hf, hst, Option.any_some, hg]
 rfl
theorem fGoes1:(Tryz.prog.closure 4).any (fun g=>(Tryz.prog.funcs[g]?).any Func.goes)=false:=by rw [clos];kernel_rfl
theorem fGoes2:Tryz.prog.funcs.any Func.goes=false:=by kernel_rfl
theorem fGoes:false=Rows.issuanceBeginsRow.goesBy Tryz.pinned.checked.prog:=goesBy_of rfl (show Tryz.prog.funcNamed "traveldoc/traveldoclaw39.IssuanceBegins" = some 4 by kernel_rfl) fGoes1 fGoes2
theorem fWf:Rows.issuanceBeginsRow.wfByText (OpenSpec.ofChange Rows.issuanceBeginsSpec)=true:=by kernel_rfl
theorem proved:Rows.IssuanceBeginsCardSaid :=
 Claim7.holds_tied_plain_at .later [] _ _ _ _ said (fun _ h=>by cases h) fWf (fun _ h=>by cases h) issuanceBegins_row_tie rfl ⟨rfl,rfl⟩ (by kernel_rfl) rfl plain fGoes
end Go.Proofs.YtelocejblpajcaaGreatDoor.issuanceBegins
