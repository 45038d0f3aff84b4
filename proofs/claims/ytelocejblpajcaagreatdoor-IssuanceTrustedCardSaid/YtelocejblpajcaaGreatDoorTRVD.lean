/- The variables stand before the call of 'IssuanceTrusted' (built only in the shaken texts, with the table that lacks the reference's tags): out of the world's shape and a row's list; a world for the witness. -/
import Derived.Test.YtelocejblpajcaaGreatDoorTR4
import Derived.Test.YtelocejblpajcaaGreatDoorCards
import Derived.Test.YtelocejblpajcaaGreatDoorTie
import Derived.Deep.DeepHandedRow
import Derived.Lib.LaidTab
import Derived.LaidSub
import Derived.Shelf.Vars
set_option linter.unusedVariables false
set_option linter.unusedSimpArgs false
set_option maxRecDepth 100000
namespace Go.Proofs.YtelocejblpajcaaGreatDoor
open Go Tdoc
theorem vKo {W:World} {g:Nat} {t:TypeId} {zero:Array Value} (h:W.ShapedOpen Tryz.prog) (hg:g < Tryz.prog.globals.size)
  (h0:((begin Tryz.prog (fun _ _=>0) default).world.heap[g]?).bind Obj.row?=some (zero,t)) (hz:zero.size=1) (hb:Tryz.prog.buildable t=true) (hc:Tryz.prog.cellTypes Tryz.prog.depth t=some [t]) :
  ∃ v,W.heap[g]?=some (.cells #[v] t)∧Cell.ok Tryz.prog W .any 0 t v:=by
 obtain ⟨cs,hh,hs,hr⟩:=h.1 g zero t hg h0
 obtain ⟨ts,hts,_,hall⟩:=hr hb
 rw [hc] at hts
 cases hts
 obtain ⟨l⟩:=cs
 match l,hs.trans hz with
 | [v],_ =>
  obtain ⟨u,hu,hk⟩:=hall 0 v rfl
  obtain rfl:t=u:=by simpa using hu
  exact ⟨v,hh,hk⟩
theorem mx {W:World} (h:W.ShapedOpen Tryz.prog):∃ (m:Int) (t:TypeId) (f:Nat×Nat),W.heap[6]?=some (.cells #[.int .i64 m] t f):=by
 obtain ⟨v,h1,h2⟩:=vKo (g:=6) (zero:=#[.int .i64 0]) (t:=3) h (of_decide_eq_true (by kernel_rfl)) (by kernel_rfl) rfl (by kernel_rfl) (by kernel_rfl)
 simp only [Cell.ok,Tryz.underlying3] at h2
 cases v <;> simp at h2
 obtain ⟨rfl,_⟩:=h2
 exact ⟨_,_,_,h1⟩
theorem qRw {H:Type} {enc:TypeId×Value→H} {P:Program} {w:World} {base:Nat} {sp:Nat→Bool} {held:Bool} {fuel:Nat} {t e e2:TypeId} {n m:Nat} {k:IntKind} {cs:List Value} {rows:List (List Int)} {p:List MemPlace}
  (ht:P.underlying t=some (.array n e)) (he:P.underlying e=some (.array m e2)) (he2:P.underlying e2=some (.int k)) (hc2:P.cellsOf e2=1) (hce:P.cellsOf e=m)
  (h:DataW.trod enc P w base sp held fuel t cs=some (.agg (rows.map (Lib.tabData k)),p)) (i:Nat) (r:List Int) (hr:rows[i]?=some r):(cs.drop (i*m)).take m=r.map fun z=>Value.int k z:=by
 cases fuel with
 | zero=>simp [DataW.trod] at h
 | succ fuel =>
  simp only [DataW.trod,ht] at h
  rw [hce] at h
  split at h
  ·obtain ⟨xs,hm,hx⟩:=Option.map_eq_some_iff.1 h
   have hxs:xs.map (·.1)=rows.map (Lib.tabData (H:=H) k):=by
    have:=congrArg Prod.fst hx
    simpa using this
   have hxl:xs.length=n:=by simpa using Lib.mapM_length hm
   have hrl:rows.length=n:=by
    have:=congrArg List.length hxs
    simp at this
    omega
   have hi:i < n:=by have:=(List.getElem?_eq_some_iff.1 hr).1;omega
   obtain ⟨b,hb,hf⟩:=Lib.mapM_at hm i i (by simp [hi])
   have h2:(xs.map (·.1))[i]?=some (Lib.tabData (H:=H) k r):=by rw [hxs];simp [hr]
   simp only [List.getElem?_map,hb,Option.map_some,Option.some.injEq] at h2
   obtain ⟨b1,b2⟩:=b
   simp only at h2
   subst h2
   exact Lib.cells_of_tab he he2 hc2 hce hf
  ·cases h
def vDp:List (String×DataW Unit):=Rows.issuanceTrustedRow.laid
theorem vMc:Tryz.prog.globalNamed "traveldoc/datagroups.tags" = some 0:=by kernel_rfl
theorem vMb:Tryz.prog.globalNamed "traveldoc/dates.lengths" = some 2:=by kernel_rfl
theorem gTab3:Tryz.prog.globalNamed "traveldoc/securityinfo.endings" = some 3:=by kernel_rfl
theorem vMa:Tryz.prog.globalNamed "traveldoc/traveldocref04.constants" = some 4:=by kernel_rfl
theorem vLz:Tryz.prog.globalNamed "traveldoc/digest.constants" = some 5:=by kernel_rfl
theorem gTy0:(Tryz.prog.globals[0]?).map (·.type)=some 266:=by kernel_rfl
theorem gTy2:(Tryz.prog.globals[2]?).map (·.type)=some 345:=by kernel_rfl
theorem gTy3:(Tryz.prog.globals[3]?).map (·.type)=some 373:=by kernel_rfl
theorem gTy4:(Tryz.prog.globals[4]?).map (·.type)=some 380:=by kernel_rfl
theorem gTy5:(Tryz.prog.globals[5]?).map (·.type)=some 380:=by kernel_rfl
theorem undA:Tryz.prog.underlying 266=some (.array 18 3):=by kernel_rfl
theorem undC:Tryz.prog.underlying 373=some (.array 7 372):=by kernel_rfl
theorem undD:Tryz.prog.underlying 345=some (.array 12 3):=by kernel_rfl
theorem undE:Tryz.prog.underlying 372=some (.array 2 5):=by kernel_rfl
theorem undW:Tryz.prog.underlying 380=some (.array 64 341):=by kernel_rfl
theorem undI:Tryz.prog.underlying 3=some (.int .i64):=by kernel_rfl
theorem undU:Tryz.prog.underlying 5=some (.int .u8):=by kernel_rfl
theorem undV:Tryz.prog.underlying 341=some (.int .u32):=by kernel_rfl
theorem cellsA:Tryz.prog.cellsOf 266=18:=by kernel_rfl
theorem vMl:Tryz.prog.cellsOf 345=12:=by kernel_rfl
theorem vMk:Tryz.prog.cellsOf 372=2:=by kernel_rfl
theorem cellsW':Tryz.prog.cellsOf 380=64:=by kernel_rfl
theorem vJc:Tryz.prog.cellsOf 3=1:=by kernel_rfl
theorem vMj:Tryz.prog.cellsOf 5=1:=by kernel_rfl
theorem vJb:Tryz.prog.cellsOf 341=1:=by kernel_rfl
def tagTb:List Int:=[97,117,99,118,101,102,103,104,105,106,107,108,109,110,111,112,96,119]
def monTb:List Int:=[31,28,31,30,31,30,31,31,30,31,30,31]
def endTb:List (List Int):=[[0,0],[0,0],[4,1],[4,2],[3,1],[2,1],[5,1]]
def conTb:List Int:=[1116352408,1899447441,3049323471,3921009573,961987163,1508970993,2453635748,2870763221,3624381080,310598401,607225278,1426881987,1925078388,2162078206,2614888103,3248222580,3835390401,4022224774,264347078,604807628,770255983,1249150122,1555081692,1996064986,2554220882,2821834349,2952996808,3210313671,3336571891,3584528711,113926993,338241895,666307205,773529912,1294757372,1396182291,1695183700,1986661051,2177026350,2456956037,2730485921,2820302411,3259730800,3345764771,3516065817,3600352804,4094571909,275423344,430227734,506948616,659060556,883997877,958139571,1322822218,1537002063,1747873779,1955562222,2024104815,2227730452,2361852424,2428436474,2756734187,3204031479,3329325298]
theorem qQz {W:World} {name:String} {g:Nat} {k:IntKind} {zs:List Int} (h:Lib.TabIs Tryz.prog W name k zs) (hg:Tryz.prog.globalNamed name=some g) (j:Nat) (d:Dat) (hd:(zs.map fun z=>Dat.int k z)[j]?=some d) :
  (GW W).imm ⟨g,j,none⟩=some (.int k (zs.getD j 0))∧RepD (GW W).imm d (.int k (zs.getD j 0)):=by
 rw [List.getElem?_map,Option.map_eq_some_iff] at hd
 obtain ⟨z,hz,rfl⟩:=hd
 have hj:j < zs.length:=(List.getElem?_eq_some_iff.1 hz).1
 have hz2:zs.getD j 0=z:=by rw [List.getD_eq_getElem?_getD,hz];rfl
 refine ⟨h.cell hg j hj,?_⟩
 rw [hz2]
 exact .int _ _
theorem endings {W:World} (h:laidMet Tryz.prog [("traveldoc/securityinfo.endings",Rows.laid_traveldoc_securityinfo_endings)] W) (j:Nat) (d:Dat) (hd:(endTb.flatten.map fun z=>Dat.int .u8 z)[j]?=some d) :
  (GW W).imm ⟨3,j,none⟩=some (.int .u8 (endTb.flatten.getD j 0))∧RepD (GW W).imm d (.int .u8 (endTb.flatten.getD j 0)):=by
 obtain ⟨ps,⟨g',t',cs,fuel,p,q,hg',ht',hvar,hd',_,_⟩,_⟩:=h
 obtain rfl:=Option.some.inj (gTab3.symm.trans hg')
 obtain rfl:=Option.some.inj (gTy3.symm.trans ht')
 have hrow:=qRw (rows:=endTb) (k:=.u8) undC undE undU vMj vMk hd'
 rw [List.getElem?_map,Option.map_eq_some_iff] at hd
 obtain ⟨z,hz,rfl⟩:=hd
 have hj:j < 14:=(List.getElem?_eq_some_iff.1 hz).1
 have hz2:endTb.flatten.getD j 0=z:=by rw [List.getD_eq_getElem?_getD,hz];rfl
 have hcell:cs.toList[j]?=some (.int .u8 z):=by
  have hi:j / 2 < 7:=by omega
  have key:∀ i,i < 7→∀ b,b < 2→∀ z,endTb.flatten[i*2+b]?=some z→cs.toList[i*2+b]?=some (.int .u8 z):=by
   intro i hi b hb z hz
   obtain ⟨r,hr⟩:∃ r,endTb[i]?=some r:=⟨endTb[i]'(by simpa [endTb] using hi),by simp⟩
   have hrw:=hrow i r hr
   have hb':endTb.flatten[i*2+b]?=r[b]?:=by
    match i,hi,hr with
    | 0,_,hr=>cases hr;match b,hb with | 0,_=>rfl | 1,_=>rfl
    | 1,_,hr=>cases hr;match b,hb with | 0,_=>rfl | 1,_=>rfl
    | 2,_,hr=>cases hr;match b,hb with | 0,_=>rfl | 1,_=>rfl
    | 3,_,hr=>cases hr;match b,hb with | 0,_=>rfl | 1,_=>rfl
    | 4,_,hr=>cases hr;match b,hb with | 0,_=>rfl | 1,_=>rfl
    | 5,_,hr=>cases hr;match b,hb with | 0,_=>rfl | 1,_=>rfl
    | 6,_,hr=>cases hr;match b,hb with | 0,_=>rfl | 1,_=>rfl
   rw [hb'] at hz
   have h1:((cs.toList.drop (i*2)).take 2)[b]?=some (.int .u8 z):=by rw [hrw];simp [hz]
   simpa [List.getElem?_take,hb] using h1
  have:=key (j / 2) hi (j % 2) (Nat.mod_lt _ (by omega)) z (by rw [show j / 2*2+j % 2=j by omega];exact hz)
  rwa [show j / 2*2+j % 2=j by omega] at this
 refine ⟨?_,by rw [hz2];exact .int _ _⟩
 have:=World.var?_cell gTab3 hvar j
 rw [hz2]
 show W.cell? _=_
 rw [this]
 simpa using hcell
theorem tabOk {W:World} (h:laidMetH Tryz.prog vDp W) (hs:W.ShapedOpen Tryz.prog):TabOk W (GW W):=by
 have h0:laidMet Tryz.prog [("traveldoc/datagroups.tags",Rows.laid_traveldoc_datagroups_tags)] W:=laidMetH.filter (fun x=>x.1 == "traveldoc/datagroups.tags") h
 have h2:laidMet Tryz.prog [("traveldoc/dates.lengths",Rows.laid_traveldoc_dates_lengths)] W:=laidMetH.filter (fun x=>x.1 == "traveldoc/dates.lengths") h
 have h3:laidMet Tryz.prog [("traveldoc/securityinfo.endings",Rows.laid_traveldoc_securityinfo_endings)] W:=laidMetH.filter (fun x=>x.1 == "traveldoc/securityinfo.endings") h
 have h4:laidMet Tryz.prog [("traveldoc/traveldocref04.constants",Rows.laid_traveldoc_traveldocref04_constants)] W:=laidMetH.filter (fun x=>x.1 == "traveldoc/traveldocref04.constants") h
 have h5:laidMet Tryz.prog [("traveldoc/digest.constants",Rows.laid_traveldoc_digest_constants)] W:=laidMetH.filter (fun x=>x.1 == "traveldoc/digest.constants") h
 have t0:Lib.TabIs Tryz.prog W "traveldoc/datagroups.tags" .i64 tagTb:=Lib.tabIs_of_head (rest:=[]) vMc gTy0 undA undI vJc cellsA h0
 have t2:Lib.TabIs Tryz.prog W "traveldoc/dates.lengths" .i64 monTb:=Lib.tabIs_of_head (rest:=[]) vMb gTy2 undD undI vJc vMl h2
 have t4:Lib.TabIs Tryz.prog W "traveldoc/traveldocref04.constants" .u32 conTb:=Lib.tabIs_of_head (rest:=[]) vMa gTy4 undW undV vJb cellsW' h4
 have t5:Lib.TabIs Tryz.prog W "traveldoc/digest.constants" .u32 conTb:=Lib.tabIs_of_head (rest:=[]) vLz gTy5 undW undV vJb cellsW' h5
 refine ⟨fun g cs hg=>?_,fun g p hg=>⟨rfl,?_⟩⟩
 ·match g,hg with
  | 0,hg =>
   obtain rfl:(tagTb.map fun z=>Dat.int .i64 z)=cs:=Option.some.inj hg
   exact ⟨fun j=>.int .i64 (tagTb.getD j 0),fun j d hd=>qQz t0 vMc j d hd⟩
  | 1,hg=>simp [qGy] at hg
  | 2,hg =>
   obtain rfl:(monTb.map fun z=>Dat.int .i64 z)=cs:=Option.some.inj hg
   exact ⟨fun j=>.int .i64 (monTb.getD j 0),fun j d hd=>qQz t2 vMb j d hd⟩
  | 3,hg =>
   obtain rfl:(endTb.flatten.map fun z=>Dat.int .u8 z)=cs:=Option.some.inj hg
   exact ⟨fun j=>.int .u8 (endTb.flatten.getD j 0),fun j d hd=>endings h3 j d hd⟩
  | 4,hg =>
   obtain rfl:(conTb.map fun z=>Dat.int .u32 z)=cs:=Option.some.inj hg
   exact ⟨fun j=>.int .u32 (conTb.getD j 0),fun j d hd=>qQz t4 vMa j d hd⟩
  | 5,hg =>
   obtain rfl:(conTb.map fun z=>Dat.int .u32 z)=cs:=Option.some.inj hg
   exact ⟨fun j=>.int .u32 (conTb.getD j 0),fun j d hd=>qQz t5 vLz j d hd⟩
  | g+6,hg=>simp [qGy] at hg
 ·match g,hg with
  | 6,hg =>
   cases hg
   obtain ⟨m,t,f,hh⟩:=mx hs
   exact ⟨_,hh,m,t,f,rfl⟩
  | 0,hg=>simp [qGh] at hg
  | 1,hg=>simp [qGh] at hg
  | 2,hg=>simp [qGh] at hg
  | 3,hg=>simp [qGh] at hg
  | 4,hg=>simp [qGh] at hg
  | 5,hg=>simp [qGh] at hg
  | g+7,hg=>simp [qGh] at hg
def qHf:DataW Unit→List Value
 | .agg l=>l.flatMap fun
   | .lit (.int k n)=>[.int k n]
   | .agg [.lit (.int k n),.lit (.int k' n')]=>[.int k n,.int k' n']
   | _=>[]
 | _=>[]
noncomputable def lay (w:World) (g:Nat) (l:List Value):World :=
 { w with heap:=w.heap.modify g fun
   | .cells _ t frozen=>.cells l.toArray t frozen
   | o=>o }
noncomputable def laidWorld (os:Os):World :=
 let w0:=World.holding Tryz.prog os ⟨#[],#[],[]⟩
 lay (lay (lay (lay (lay (lay (lay w0 0 (qHf Rows.laid_traveldoc_datagroups_tags)) 2 (qHf Rows.laid_traveldoc_dates_lengths)) 3 (qHf Rows.laid_traveldoc_securityinfo_endings)) 4 (qHf Rows.laid_traveldoc_traveldocref04_constants)) 5 (qHf Rows.laid_traveldoc_digest_constants)) 7 (qHf Rows.laid_unicode_utf8_first)) 8 (qHf Rows.laid_unicode_utf8_acceptRanges)
theorem vDo (os:Os) (args:Array Value):laidMet Tryz.prog vDp ((laidWorld os).forCall (fun _ _=>0) ⟨#[],args,[]⟩).memory :=
 laidMet_of_run' 8 (by kernel_rfl) (by kernel_rfl)
end Go.Proofs.YtelocejblpajcaaGreatDoor
