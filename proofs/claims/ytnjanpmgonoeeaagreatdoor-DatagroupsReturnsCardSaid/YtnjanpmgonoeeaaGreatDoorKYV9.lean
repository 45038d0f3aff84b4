/- The variables stand before the call of 'DatagroupsReturns' (built only in the shaken texts, with the table that lacks the reference's tags): out of the world's shape and a row's list; a world for the witness. -/
import Derived.Test.YtnjanpmgonoeeaaGreatDoorKY2
import Derived.Test.YtnjanpmgonoeeaaGreatDoorCards
import Derived.Test.YtnjanpmgonoeeaaGreatDoorTie
import Derived.WalkKit
import Derived.ProofKit
import Derived.OpenShut
import Derived.Deep.DeepHandedRow
import Derived.Lib.LaidTab
import Derived.LaidSub
import Derived.Shelf.Vars
set_option linter.unusedVariables false
set_option linter.unusedSimpArgs false
set_option maxRecDepth 100000
namespace Go.Proofs.YtnjanpmgonoeeaaGreatDoor
open Go Tdoc
theorem blk_one {W:World} {g:Nat} {t:TypeId} {zero:Array Value} (h:W.ShapedOpen Tryz.prog) (hg:g < Tryz.prog.globals.size)
  (h0:((begin Tryz.prog (fun _ _=>0) default).world.heap[g]?).bind Obj.row?=some (zero,t)) (hz:zero.size=1) (hb:Tryz.prog.buildable t=true) (hc:Tryz.prog.cellTypes Tryz.prog.depth t=some [t]) :
  ∃ v,W.heap[g]?=some (.cells #[v] t)∧Cell.ok Tryz.prog W .any 0 t v:=by
 obtain ⟨cs,hh,hs,hr⟩:=h.1 g zero t hg h0
 obtain ⟨ts,hts,_,hall⟩:=hr hb
 rw [hc] at hts
 cases hts
 obtain ⟨l⟩:=cs
 match l,hs.trans hz with
 | [v],_ =>
  obtain ⟨u,hu,hk⟩:=hall 0 v rfl
  obtain rfl:t=u:=by simpa using hu
  exact ⟨v,hh,hk⟩
theorem mx {W:World} (h:W.ShapedOpen Tryz.prog):∃ (m:Int) (t:TypeId) (f:Nat×Nat),W.heap[4]?=some (.cells #[.int .i64 m] t f):=by
 obtain ⟨v,h1,h2⟩:=blk_one (g:=4) (zero:=#[.int .i64 0]) (t:=3) h (of_decide_eq_true (by kernel_rfl)) (by kernel_rfl) rfl (by kernel_rfl) (by kernel_rfl)
 simp only [Cell.ok,Tryz.underlying3] at h2
 cases v <;> simp at h2
 obtain ⟨rfl,_⟩:=h2
 exact ⟨_,_,_,h1⟩
theorem cells_of_tab2 {H:Type} {enc:TypeId×Value→H} {P:Program} {w:World} {base:Nat} {sp:Nat→Bool} {held:Bool} {fuel:Nat} {t e e2:TypeId} {n m:Nat} {k:IntKind} {cs:List Value} {rows:List (List Int)} {p:List MemPlace}
  (ht:P.underlying t=some (.array n e)) (he:P.underlying e=some (.array m e2)) (he2:P.underlying e2=some (.int k)) (hc2:P.cellsOf e2=1) (hce:P.cellsOf e=m)
  (h:DataW.trod enc P w base sp held fuel t cs=some (.agg (rows.map (Lib.tabData k)),p)) (i:Nat) (r:List Int) (hr:rows[i]?=some r):(cs.drop (i*m)).take m=r.map fun z=>Value.int k z:=by
 cases fuel with
 | zero=>simp [DataW.trod] at h
 | succ fuel =>
  simp only [DataW.trod,ht] at h
  rw [hce] at h
  split at h
  ·obtain ⟨xs,hm,hx⟩:=Option.map_eq_some_iff.1 h
   have hxs:xs.map (·.1)=rows.map (Lib.tabData (H:=H) k):=by
    have:=congrArg Prod.fst hx
    simpa using this
   have hxl:xs.length=n:=by simpa using Lib.mapM_length hm
   have hrl:rows.length=n:=by
    have:=congrArg List.length hxs
    simp at this
    omega
   have hi:i < n:=by have:=(List.getElem?_eq_some_iff.1 hr).1;omega
   obtain ⟨b,hb,hf⟩:=Lib.mapM_at hm i i (by simp [hi])
   have h2:(xs.map (·.1))[i]?=some (Lib.tabData (H:=H) k r):=by rw [hxs];simp [hr]
   simp only [List.getElem?_map,hb,Option.map_some,Option.some.injEq] at h2
   obtain ⟨b1,b2⟩:=b
   simp only at h2
   subst h2
   exact Lib.cells_of_tab he he2 hc2 hce hf
  ·cases h
def laidAll:List (String×DataW Unit):=Rows.datagroupsReturnsRow.laid
theorem gTab1:Tryz.prog.globalNamed "traveldoc/datagroups.tags" = some 1:=by kernel_rfl
theorem gTab2:Tryz.prog.globalNamed "traveldoc/securityinfo.endings" = some 2:=by kernel_rfl
theorem gTab3:Tryz.prog.globalNamed "traveldoc/dates.lengths" = some 3:=by kernel_rfl
theorem gTy1:(Tryz.prog.globals[1]?).map (·.type)=some 114:=by kernel_rfl
theorem gTy2:(Tryz.prog.globals[2]?).map (·.type)=some 239:=by kernel_rfl
theorem gTy3:(Tryz.prog.globals[3]?).map (·.type)=some 257:=by kernel_rfl
theorem undA:Tryz.prog.underlying 114=some (.array 18 3):=by kernel_rfl
theorem undC:Tryz.prog.underlying 239=some (.array 7 238):=by kernel_rfl
theorem undD:Tryz.prog.underlying 257=some (.array 12 3):=by kernel_rfl
theorem undE:Tryz.prog.underlying 238=some (.array 2 5):=by kernel_rfl
theorem undI:Tryz.prog.underlying 3=some (.int .i64):=by kernel_rfl
theorem undU:Tryz.prog.underlying 5=some (.int .u8):=by kernel_rfl
theorem cellsA:Tryz.prog.cellsOf 114=18:=by kernel_rfl
theorem cellsD:Tryz.prog.cellsOf 257=12:=by kernel_rfl
theorem cellsE:Tryz.prog.cellsOf 238=2:=by kernel_rfl
theorem cellsI:Tryz.prog.cellsOf 3=1:=by kernel_rfl
theorem cellsU:Tryz.prog.cellsOf 5=1:=by kernel_rfl
def tagTb:List Int:=[97,117,99,118,101,102,103,104,105,106,107,108,109,110,111,112,96,119]
def monTb:List Int:=[31,28,31,30,31,30,31,31,30,31,30,31]
def endTb:List (List Int):=[[0,0],[0,0],[4,1],[4,2],[3,1],[2,1],[5,1]]
theorem tab_one {W:World} {name:String} {g:Nat} {zs:List Int} (h:Lib.TabIs Tryz.prog W name .i64 zs) (hg:Tryz.prog.globalNamed name=some g) (j:Nat) (d:Dat) (hd:(zs.map fun z=>Dat.int .i64 z)[j]?=some d) :
  (GW W).imm ⟨g,j,none⟩=some (.int .i64 (zs.getD j 0))∧RepD (GW W).imm d (.int .i64 (zs.getD j 0)):=by
 rw [List.getElem?_map,Option.map_eq_some_iff] at hd
 obtain ⟨z,hz,rfl⟩:=hd
 have hj:j < zs.length:=(List.getElem?_eq_some_iff.1 hz).1
 have hz2:zs.getD j 0=z:=by rw [List.getD_eq_getElem?_getD,hz];rfl
 refine ⟨h.cell hg j hj,?_⟩
 rw [hz2]
 exact .int _ _
theorem endings {W:World} (h:laidMet Tryz.prog [("traveldoc/securityinfo.endings",Rows.laid_traveldoc_securityinfo_endings)] W) (j:Nat) (d:Dat) (hd:(endTb.flatten.map fun z=>Dat.int .u8 z)[j]?=some d) :
  (GW W).imm ⟨2,j,none⟩=some (.int .u8 (endTb.flatten.getD j 0))∧RepD (GW W).imm d (.int .u8 (endTb.flatten.getD j 0)):=by
 obtain ⟨ps,⟨g',t',cs,fuel,p,q,hg',ht',hvar,hd',_,_⟩,_⟩:=h
 obtain rfl:=Option.some.inj (gTab2.symm.trans hg')
 obtain rfl:=Option.some.inj (gTy2.symm.trans ht')
 have hrow:=cells_of_tab2 (rows:=endTb) (k:=.u8) undC undE undU cellsU cellsE hd'
 rw [List.getElem?_map,Option.map_eq_some_iff] at hd
 obtain ⟨z,hz,rfl⟩:=hd
 have hj:j < 14:=(List.getElem?_eq_some_iff.1 hz).1
 have hz2:endTb.flatten.getD j 0=z:=by rw [List.getD_eq_getElem?_getD,hz];rfl
 have hcell:cs.toList[j]?=some (.int .u8 z):=by
  have hi:j / 2 < 7:=by omega
  have key:∀ i,i < 7→∀ b,b < 2→∀ z,endTb.flatten[i*2+b]?=some z→cs.toList[i*2+b]?=some (.int .u8 z):=by
   intro i hi b hb z hz
   obtain ⟨r,hr⟩:∃ r,endTb[i]?=some r:=⟨endTb[i]'(by simpa [endTb] using hi),by simp⟩
   have hrw:=hrow i r hr
   have hb':endTb.flatten[i*2+b]?=r[b]?:=by
    match i,hi,hr with
    | 0,_,hr=>cases hr;match b,hb with | 0,_=>rfl | 1,_=>rfl
    | 1,_,hr=>cases hr;match b,hb with | 0,_=>rfl | 1,_=>rfl
    | 2,_,hr=>cases hr;match b,hb with | 0,_=>rfl | 1,_=>rfl
    | 3,_,hr=>cases hr;match b,hb with | 0,_=>rfl | 1,_=>rfl
    | 4,_,hr=>cases hr;match b,hb with | 0,_=>rfl | 1,_=>rfl
    | 5,_,hr=>cases hr;match b,hb with | 0,_=>rfl | 1,_=>rfl
    | 6,_,hr=>cases hr;match b,hb with | 0,_=>rfl | 1,_=>rfl
   rw [hb'] at hz
   have h1:((cs.toList.drop (i*2)).take 2)[b]?=some (.int .u8 z):=by rw [hrw];simp [hz]
   simpa [List.getElem?_take,hb] using h1
  have:=key (j / 2) hi (j % 2) (Nat.mod_lt _ (by omega)) z (by rw [show j / 2*2+j % 2=j by omega];exact hz)
  rwa [show j / 2*2+j % 2=j by omega] at this
 refine ⟨?_,by rw [hz2];exact .int _ _⟩
 have:=World.var?_cell gTab2 hvar j
 rw [hz2]
 show W.cell? _=_
 rw [this]
 simpa using hcell
theorem tabOk {W:World} (h:laidMetH Tryz.prog laidAll W) (hs:W.ShapedOpen Tryz.prog):TabOk W (GW W):=by
 have h1:laidMet Tryz.prog [("traveldoc/datagroups.tags",Rows.laid_traveldoc_datagroups_tags)] W:=laidMetH.filter (fun x=>x.1 == "traveldoc/datagroups.tags") h
 have h2:laidMet Tryz.prog [("traveldoc/securityinfo.endings",Rows.laid_traveldoc_securityinfo_endings)] W:=laidMetH.filter (fun x=>x.1 == "traveldoc/securityinfo.endings") h
 have h3:laidMet Tryz.prog [("traveldoc/dates.lengths",Rows.laid_traveldoc_dates_lengths)] W:=laidMetH.filter (fun x=>x.1 == "traveldoc/dates.lengths") h
 have t1:Lib.TabIs Tryz.prog W "traveldoc/datagroups.tags" .i64 tagTb:=Lib.tabIs_of_head (rest:=[]) gTab1 gTy1 undA undI cellsI cellsA h1
 have t3:Lib.TabIs Tryz.prog W "traveldoc/dates.lengths" .i64 monTb:=Lib.tabIs_of_head (rest:=[]) gTab3 gTy3 undD undI cellsI cellsD h3
 refine ⟨fun g cs hg=>?_,fun g p hg=>⟨rfl,?_⟩⟩
 ·match g,hg with
  | 0,hg=>simp [seatTab] at hg
  | 1,hg =>
   obtain rfl:(tagTb.map fun z=>Dat.int .i64 z)=cs:=Option.some.inj hg
   exact ⟨fun j=>.int .i64 (tagTb.getD j 0),fun j d hd=>tab_one t1 gTab1 j d hd⟩
  | 2,hg =>
   obtain rfl:(endTb.flatten.map fun z=>Dat.int .u8 z)=cs:=Option.some.inj hg
   exact ⟨fun j=>.int .u8 (endTb.flatten.getD j 0),fun j d hd=>endings h2 j d hd⟩
  | 3,hg =>
   obtain rfl:(monTb.map fun z=>Dat.int .i64 z)=cs:=Option.some.inj hg
   exact ⟨fun j=>.int .i64 (monTb.getD j 0),fun j d hd=>tab_one t3 gTab3 j d hd⟩
  | g+4,hg=>simp [seatTab] at hg
 ·match g,hg with
  | 4,hg =>
   cases hg
   obtain ⟨m,t,f,hh⟩:=mx hs
   exact ⟨_,hh,m,t,f,rfl⟩
  | 0,hg=>simp [seatBlk] at hg
  | 1,hg=>simp [seatBlk] at hg
  | 2,hg=>simp [seatBlk] at hg
  | 3,hg=>simp [seatBlk] at hg
  | g+5,hg=>simp [seatBlk] at hg
def cellsOfD:DataW Unit→List Value
 | .agg l=>l.flatMap fun
   | .lit (.int k n)=>[.int k n]
   | .agg [.lit (.int k n),.lit (.int k' n')]=>[.int k n,.int k' n']
   | _=>[]
 | _=>[]
noncomputable def lay (w:World) (g:Nat) (l:List Value):World :=
 { w with heap:=w.heap.modify g fun
   | .cells _ t frozen=>.cells l.toArray t frozen
   | o=>o }
noncomputable def laidWorld (os:Os):World :=
 let w0:=World.holding Tryz.prog os ⟨#[],#[],[]⟩
 lay (lay (lay (lay (lay w0 1 (cellsOfD Rows.laid_traveldoc_datagroups_tags)) 2 (cellsOfD Rows.laid_traveldoc_securityinfo_endings)) 3 (cellsOfD Rows.laid_traveldoc_dates_lengths)) 5 (cellsOfD Rows.laid_unicode_utf8_first)) 6 (cellsOfD Rows.laid_unicode_utf8_acceptRanges)
theorem laid_met0 (os:Os) (args:Array Value):laidMet Tryz.prog laidAll ((laidWorld os).forCall (fun _ _=>0) ⟨#[],args,[]⟩).memory :=
 laidMet_of_run' 8 (by kernel_rfl) (by kernel_rfl)
end Go.Proofs.YtnjanpmgonoeeaaGreatDoor
