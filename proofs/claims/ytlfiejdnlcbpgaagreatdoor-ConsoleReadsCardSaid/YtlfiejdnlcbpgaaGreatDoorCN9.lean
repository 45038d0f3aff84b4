/- Part 9 of the proof: the texts UJ UK UM UN UO UP US UV UT UW UZ. -/
import Derived.Test.YtlfiejdnlcbpgaaGreatDoorCN8
set_option maxHeartbeats 8000000
set_option maxRecDepth 100000
set_option linter.unusedVariables false
set_option linter.unusedSimpArgs false
namespace Tdoc
open Go Go.Proofs
theorem partsL_len {w:List UInt8} (hw:w.length≤1000000):(qBk w).length≤1000001∧∀ v,v∈qBk w→v.length≤1000000:=by
 unfold qBk
 split
 ·exact ⟨by simp,fun v hv=>by cases hv⟩
 ·refine ⟨?_,fun v hv=>Nat.le_trans (qBs (c:=44) w v hv) hw⟩
  rw [qCt]
  have:=List.count_le_length (a:=(44:UInt8)) (l:=w)
  omega
theorem qWf {α:Type} (p:α→Bool) (l:List α) (x:α):(l++[x]).all p=(l.all p&&p x):=by simp
theorem encI_snoc (l:List Int) (n:Int):qAl (l++[n])=qAl l++[[.int .i64 n]]:=by simp [qAl]
theorem encFp_snoc (l:List Flp) (f:Flp):qAr (l++[f])=qAr l++[[.int .i64 f.ap,.int .i64 f.byt,.int .i64 f.bit]]:=by simp [qAr]
theorem readNums_spec (C:List AV) (off:Nat) (hC:C[off]?=some (.sl 1 [] .full)) (hlow:qBl 2 C=true) (ws:List (List UInt8)) (b:Bool) (hw:(hdW ws).length≤1000000):Spec Tryz.prog 33 [.ptr 1 0,.ifa (tyS .nums) (.ptr 0 off)] [.row C,.row (scO ws b)]
  (fun r h'=>r=.tup []∧h'=[.row (C.set off (qDv (rdS .nums (hdW ws)).1)),.row (scO ws.tail (b||ws.isEmpty||!(rdS .nums (hdW ws)).2))]):=by
 have ho:off < C.length:=(List.getElem?_eq_some_iff.1 hC).1
 have hp:=partsC_spec ws b hw
 obtain ⟨hpl,hpm⟩:=partsL_len hw
 simp only [rdS,qDv,tyS]
 generalize (b||ws.isEmpty)=b1 at hp ⊢
 generalize ws.tail=wt at hp ⊢
 generalize qBk (hdW ws)=L at hp hpl hpm ⊢
 have hll:=strsAV_length L
 have hld:∀ i,qEv T 23 (C.set off (.sl 1 (qAl ((L.take i).map (fun v=>(qBd v).1))) (.right 2))) off=some (.sl 1 (qAl ((L.take i).map (fun v=>(qBd v).1))) (.right 2)):=fun i=>by
  show (C.set off _)[off]?=_
  rw [List.getElem?_set_self ho]
 have hst:∀ i l,qDz T 23 (C.set off (.sl 1 (qAl ((L.take i).map (fun v=>(qBd v).1))) (.right 2))) off (.sl 1 l (.right 2))=some (C.set off (.sl 1 l (.right 2))):=fun i l=>by
  rw [storeA_one (ti:=⟨.slice 3,1,24,[.sl 1 [] .full]⟩) rfl rfl rfl (by rw [List.length_set];exact ho),List.set_set]
 have hL:=lowH_rd (ws:=wt) (b:=(b1||!L.all (fun v=>(qBd v).2))) (lowL_set (v:=.d (.sl 1 (qAl (L.map (fun v=>(qBd v).1))))) rfl C off hlow)
 refine qAb hT Tryz.func33 rfl rfl rfl rfl ?_;intro E hE
 refine ww ?_
 refine qAa rfl (fun q=>absurd q (by decide)) (fun q=>?_)
 refine ww ?_
 refine qAa rfl (fun q=>absurd q (by decide)) (fun q=>?_)
 refine ww ?_
 refine qAa rfl (fun q=>absurd q (by decide)) (fun q=>?_)
 refine ww ?_
 refine qAa rfl (fun q=>absurd q (by decide)) (fun q=>?_)
 refine ww ?_
 refine qAa rfl (fun q=>?_) (fun q=>absurd q (by decide))
 refine ww ?_
 refine qAd (qAk rfl rfl hp [1] (by decide) rfl rfl rfl rfl rfl rfl rfl) rfl ?_
 refine ww ?_
 refine qAq (qDm 0 off 2 1 (es:=[]) rfl hC rfl ?_)
 refine qAn (ι:=Nat) (fun i=>[(0,.ptr 1 0),(8,.ptr 0 off),(51,.d (.sl 1 (qAg L))),(52,.I (L.length:Int)),(53,.I (i:Int))])
  (fun i=>[.row (C.set off (.sl 1 (qAl ((L.take i).map (fun v=>(qBd v).1))) (.right 2))),.row (scO wt (b1||!(L.take i).all (fun v=>(qBd v).2))),.right 1 (qAl ((L.take i).map (fun v=>(qBd v).1))).length]) (fun i=>i≤L.length) (fun i=>L.length-i) 0 (Nat.zero_le _)
  ⟨.refl _,.refl _,.refl _,.int (by rw [hll]),.refl _,trivial⟩ ⟨.refl _,by rw [show (b1||!(L.take 0).all (fun v=>(qBd v).2))=b1 by simp];exact ObLe.refl _,.refl _,trivial⟩ ?_
 intro i hi
 refine ww ?_
 refine qAa rfl (fun c1=>?_) (fun c1=>?_)
 ·have hi':i < L.length:=by simp at c1;omega
  have hat:=strsAV_at hi'
  have htk:L.take (i+1)=L.take i++[L[i]]:=List.take_succ_eq_append_getElem hi'
  have hps:=parseC_spec wt (b1||!(L.take i).all (fun v=>(qBd v).2)) L[i] (hpm _ (List.getElem_mem hi'))
  have hsn:qAl ((L.take (i+1)).map (fun v=>(qBd v).1))=qAl ((L.take i).map (fun v=>(qBd v).1))++[[.int .i64 (qBd L[i]).1]]:=by rw [htk,List.map_append];exact encI_snoc _ _
  have hbn:(b1||!(L.take (i+1)).all (fun v=>(qBd v).2))=(b1||!(L.take i).all (fun v=>(qBd v).2)||!(qBd L[i]).2):=by rw [htk,qWf,Bool.not_and,Bool.or_assoc]
  have hln:(qAl ((L.take i).map (fun v=>(qBd v).1))).length≤1000001:=by rw [encI_length,List.length_map,List.length_take];omega
  have hld:=hld i
  have hst:=hst i (qAl ((L.take i).map (fun v=>(qBd v).1))++[[.int .i64 (qBd L[i]).1]])
  rw [← hbn] at hps
  generalize hb3:(b1||!(L.take (i+1)).all (fun v=>(qBd v).2))=b3 at hps hbn
  generalize (b1||!(L.take i).all (fun v=>(qBd v).2))=b2 at hps hbn ⊢
  generalize (qBd L[i]).1=n at hps hsn hst
  generalize L[i]=w at hat hps
  generalize qAl ((L.take i).map (fun v=>(qBd v).1))=A at hsn hln hld hst ⊢
  clear hbn
  unfold scO at *
  refine ww ?_
  refine wwi hat ?_
  refine wwn ?_
  refine qAv (fun i=>bif Nat.beq i 3||Nat.beq i 10 then [0] else bif Nat.beq i 6 then [1] else bif Nat.beq i 8 then [2] else []) (fun i=>bif Nat.beq i 10 then [0] else bif Nat.beq i 6 then [1] else bif Nat.beq i 8 then [2] else []) mixed (by kernel_rfl) ?_
  refine wwg ?_
  refine qAm (os:=[]) (fun k hk hr=>qAo (i:=0) (off:=off) hT rfl rfl ((hr 0 (List.mem_singleton.2 rfl)).trans rfl) hld) rfl ?_
  refine wwg ?_
  refine qAm (os:=[.row [.d (.sl 1 (qAg wt)),.d (.bool b3)]]) (v:=.I n) (fun k hk hr=>qAk rfl rfl hps [0+1] (by decide) (congrArg (fun z=>[z]) ((hr 1 (List.mem_singleton.2 rfl)).trans rfl)) rfl rfl rfl rfl rfl rfl) rfl ?_
  refine wwg ?_
  refine qAm (os:=[]) (v:=.sl 1 [[Dat.int .i64 n]] .full) (fun k hk hr=>buildSl_ok hT rfl rfl) rfl ?_
  refine wwg ?_
  refine qAm (os:=[.right 1 (A++[[Dat.int .i64 n]]).length]) (v:=.sl 1 (A++[[Dat.int .i64 n]]) (.right 2)) (fun k hk hr=>qAs (i:=2) (es:=A) (es2:=[[Dat.int .i64 n]]) (by_:=8) hT rfl rfl rfl rfl ((hr 2 (List.mem_singleton.2 rfl)).trans rfl) rfl (by show (A.length+1)*(8+1)≤140737488355328;omega)) rfl ?_
  refine wwg ?_
  refine qAm (os:=[.row (C.set off (.sl 1 (A++[[Dat.int .i64 n]]) (.right 2)))]) (v:=.any) (fun k hk hr=>qAp (i:=0) (off:=off) hT rfl rfl ((hr 0 (List.mem_singleton.2 rfl)).trans rfl) hst) rfl ?_
  refine wwg ?_
  refine ww ?_
  exact ⟨i+1,hi',by omega,⟨.refl _,.refl _,.refl _,.refl _,.int (by rw [qAh (by omega)];omega),trivial⟩,⟨by rw [hsn];exact ObLe.refl _,by rw [hb3];exact ObLe.refl _,by rw [hsn];exact ObLe.refl _,trivial⟩⟩
 have hi':i=L.length:=by simp at c1;omega
 subst hi'
 rw [List.take_length]
 refine qAi (l:=[(0,.ptr 1 0)]) (h':=[.row (C.set off (.d (.sl 1 (qAl (L.map (fun v=>(qBd v).1)))))),.row (scO wt (b1||!L.all (fun v=>(qBd v).2))),.right 1 (qAl (L.map (fun v=>(qBd v).1))).length]) yf ⟨qMa .dat C off,.refl _,.refl _,trivial⟩ ?_
 refine qBr ?_
 exact rqN (h6:=hL) ⟨rfl,rfl⟩ rfl (.refl _)
theorem readFlps_spec (C:List AV) (off:Nat) (hC:C[off]?=some (.sl 3 [] .full)) (hlow:qBl 2 C=true) (ws:List (List UInt8)) (b:Bool) (hw:(hdW ws).length≤1000000):Spec Tryz.prog 33 [.ptr 1 0,.ifa (tyS .flps) (.ptr 0 off)] [.row C,.row (scO ws b)]
  (fun r h'=>r=.tup []∧h'=[.row (C.set off (qDv (rdS .flps (hdW ws)).1)),.row (scO ws.tail (b||ws.isEmpty||!(rdS .flps (hdW ws)).2))]):=by
 have ho:off < C.length:=(List.getElem?_eq_some_iff.1 hC).1
 have hp:=partsC_spec ws b hw
 obtain ⟨hpl,hpm⟩:=partsL_len hw
 simp only [rdS,qDv,tyS]
 generalize (b||ws.isEmpty)=b1 at hp ⊢
 generalize ws.tail=wt at hp ⊢
 generalize qBk (hdW ws)=L at hp hpl hpm ⊢
 have hll:=strsAV_length L
 have hld:∀ i,qEv T 29 (C.set off (.sl 3 (qAr ((L.take i).map (fun v=>(qCh v).1))) (.right 2))) off=some (.sl 3 (qAr ((L.take i).map (fun v=>(qCh v).1))) (.right 2)):=fun i=>by
  show (C.set off _)[off]?=_
  rw [List.getElem?_set_self ho]
 have hst:∀ i l,qDz T 29 (C.set off (.sl 3 (qAr ((L.take i).map (fun v=>(qCh v).1))) (.right 2))) off (.sl 3 l (.right 2))=some (C.set off (.sl 3 l (.right 2))):=fun i l=>by
  rw [storeA_one (ti:=⟨.slice 55,1,24,[.sl 3 [] .full]⟩) rfl rfl rfl (by rw [List.length_set];exact ho),List.set_set]
 have hL:=lowH_rd (ws:=wt) (b:=(b1||!L.all (fun v=>(qCh v).2))) (lowL_set (v:=.d (.sl 3 (qAr (L.map (fun v=>(qCh v).1))))) rfl C off hlow)
 refine qAb hT Tryz.func33 rfl rfl rfl rfl ?_;intro E hE
 refine ww ?_
 refine qAa rfl (fun q=>absurd q (by decide)) (fun q=>?_)
 refine ww ?_
 refine qAa rfl (fun q=>absurd q (by decide)) (fun q=>?_)
 refine ww ?_
 refine qAa rfl (fun q=>absurd q (by decide)) (fun q=>?_)
 refine ww ?_
 refine qAa rfl (fun q=>absurd q (by decide)) (fun q=>?_)
 refine ww ?_
 refine qAa rfl (fun q=>absurd q (by decide)) (fun q=>?_)
 refine ww ?_
 refine qAa rfl (fun q=>?_) (fun q=>absurd q (by decide))
 refine ww ?_
 refine qAd (qAk rfl rfl hp [1] (by decide) rfl rfl rfl rfl rfl rfl rfl) rfl ?_
 refine ww ?_
 refine qAq (qDm 0 off 2 3 (es:=[]) rfl hC rfl ?_)
 refine qAn (ι:=Nat) (fun i=>[(0,.ptr 1 0),(11,.ptr 0 off),(72,.d (.sl 1 (qAg L))),(73,.I (L.length:Int)),(74,.I (i:Int))])
  (fun i=>[.row (C.set off (.sl 3 (qAr ((L.take i).map (fun v=>(qCh v).1))) (.right 2))),.row (scO wt (b1||!(L.take i).all (fun v=>(qCh v).2))),.right 3 (qAr ((L.take i).map (fun v=>(qCh v).1))).length]) (fun i=>i≤L.length) (fun i=>L.length-i) 0 (Nat.zero_le _)
  ⟨.refl _,.refl _,.refl _,.int (by rw [hll]),.refl _,trivial⟩ ⟨.refl _,by rw [show (b1||!(L.take 0).all (fun v=>(qCh v).2))=b1 by simp];exact ObLe.refl _,.refl _,trivial⟩ ?_
 intro i hi
 refine ww ?_
 refine qAa rfl (fun c1=>?_) (fun c1=>?_)
 ·have hi':i < L.length:=by simp at c1;omega
  have hat:=strsAV_at hi'
  have htk:L.take (i+1)=L.take i++[L[i]]:=List.take_succ_eq_append_getElem hi'
  have hps:=flipC_spec wt (b1||!(L.take i).all (fun v=>(qCh v).2)) L[i] (hpm _ (List.getElem_mem hi'))
  have hsn:qAr ((L.take (i+1)).map (fun v=>(qCh v).1))=qAr ((L.take i).map (fun v=>(qCh v).1))++[[.int .i64 (qCh L[i]).1.ap,.int .i64 (qCh L[i]).1.byt,.int .i64 (qCh L[i]).1.bit]]:=by rw [htk,List.map_append];exact encFp_snoc _ _
  have hbn:(b1||!(L.take (i+1)).all (fun v=>(qCh v).2))=(b1||!(L.take i).all (fun v=>(qCh v).2)||!(qCh L[i]).2):=by rw [htk,qWf,Bool.not_and,Bool.or_assoc]
  have hln:(qAr ((L.take i).map (fun v=>(qCh v).1))).length≤1000001:=by rw [encFp_length,List.length_map,List.length_take];omega
  have hld:=hld i
  have hst:=hst i (qAr ((L.take i).map (fun v=>(qCh v).1))++[[.int .i64 (qCh L[i]).1.ap,.int .i64 (qCh L[i]).1.byt,.int .i64 (qCh L[i]).1.bit]])
  rw [← hbn] at hps
  generalize hb3:(b1||!(L.take (i+1)).all (fun v=>(qCh v).2))=b3 at hps hbn
  generalize (b1||!(L.take i).all (fun v=>(qCh v).2))=b2 at hps hbn ⊢
  generalize (qCh L[i]).1=f at hps hsn hst
  generalize L[i]=w at hat hps
  generalize qAr ((L.take i).map (fun v=>(qCh v).1))=A at hsn hln hld hst ⊢
  clear hbn
  unfold scO vIg at *
  refine ww ?_
  refine wwi hat ?_
  refine wwn ?_
  refine qAv (fun i=>bif Nat.beq i 3||Nat.beq i 10 then [0] else bif Nat.beq i 6 then [1] else bif Nat.beq i 8 then [2] else []) (fun i=>bif Nat.beq i 10 then [0] else bif Nat.beq i 6 then [1] else bif Nat.beq i 8 then [2] else []) mixed (by kernel_rfl) ?_
  refine wwg ?_
  refine qAm (os:=[]) (fun k hk hr=>qAo (i:=0) (off:=off) hT rfl rfl ((hr 0 (List.mem_singleton.2 rfl)).trans rfl) hld) rfl ?_
  refine wwg ?_
  refine qAm (os:=[.row [.d (.sl 1 (qAg wt)),.d (.bool b3)]]) (v:=vIg f) (fun k hk hr=>qAk rfl rfl hps [0+1] (by decide) (congrArg (fun z=>[z]) ((hr 1 (List.mem_singleton.2 rfl)).trans rfl)) rfl rfl rfl rfl rfl rfl) rfl ?_
  refine wwg ?_
  refine qAm (os:=[]) (v:=.sl 3 [[Dat.int .i64 f.ap,Dat.int .i64 f.byt,Dat.int .i64 f.bit]] .full) (fun k hk hr=>buildSl_ok hT rfl rfl) rfl ?_
  refine wwg ?_
  refine qAm (os:=[.right 3 (A++[[Dat.int .i64 f.ap,Dat.int .i64 f.byt,Dat.int .i64 f.bit]]).length]) (v:=.sl 3 (A++[[Dat.int .i64 f.ap,Dat.int .i64 f.byt,Dat.int .i64 f.bit]]) (.right 2)) (fun k hk hr=>qAs (i:=2) (es:=A) (es2:=[[Dat.int .i64 f.ap,Dat.int .i64 f.byt,Dat.int .i64 f.bit]]) (by_:=24) hT rfl rfl rfl rfl ((hr 2 (List.mem_singleton.2 rfl)).trans rfl) rfl (by show (A.length+1)*(24+1)≤140737488355328;omega)) rfl ?_
  refine wwg ?_
  refine qAm (os:=[.row (C.set off (.sl 3 (A++[[Dat.int .i64 f.ap,Dat.int .i64 f.byt,Dat.int .i64 f.bit]]) (.right 2)))]) (v:=.any) (fun k hk hr=>qAp (i:=0) (off:=off) hT rfl rfl ((hr 0 (List.mem_singleton.2 rfl)).trans rfl) hst) rfl ?_
  refine wwg ?_
  refine ww ?_
  exact ⟨i+1,hi',by omega,⟨.refl _,.refl _,.refl _,.refl _,.int (by rw [qAh (by omega)];omega),trivial⟩,⟨by rw [hsn];exact ObLe.refl _,by rw [hb3];exact ObLe.refl _,by rw [hsn];exact ObLe.refl _,trivial⟩⟩
 have hi':i=L.length:=by simp at c1;omega
 subst hi'
 rw [List.take_length]
 refine qAi (l:=[(0,.ptr 1 0)]) (h':=[.row (C.set off (.d (.sl 3 (qAr (L.map (fun v=>(qCh v).1)))))),.row (scO wt (b1||!L.all (fun v=>(qCh v).2))),.right 3 (qAr (L.map (fun v=>(qCh v).1))).length]) yf ⟨qMa .dat C off,.refl _,.refl _,trivial⟩ ?_
 refine qBr ?_
 exact rqN (h6:=hL) ⟨rfl,rfl⟩ rfl (.refl _)
def qYd:Shp→AV
 | .num=>.d (.int .i64 0)
 | .txt=>.d (.str [])
 | .rst=>.d (.str [])
 | .flg=>.d (.bool false)
 | .nums=>.sl 1 [] .full
 | .flps=>.sl 3 [] .full
theorem readC_spec (s:Shp) (C:List AV) (off:Nat) (hC:C[off]?=some (qYd s)) (hlow:qBl 2 C=true) (ws:List (List UInt8)) (b:Bool) (hw:(hdW ws).length≤1000000):Spec Tryz.prog 33 [.ptr 1 0,.ifa (tyS s) (.ptr 0 off)] [.row C,.row (scO ws b)]
  (fun r h'=>r=.tup []∧h'=[.row (C.set off (qDv (rdS s (hdW ws)).1)),.row (scO ws.tail (b||ws.isEmpty||!(rdS s (hdW ws)).2))]):=by
 have ho:off < C.length:=(List.getElem?_eq_some_iff.1 hC).1
 cases s with
 | num=>exact readNum_spec C off ho hlow ws b hw
 | txt=>exact readTxt_spec C off ho hlow ws b hw
 | rst=>exact readRst_spec C off ho hlow ws b hw
 | flg=>exact readFlg_spec C off ho hlow ws b hw
 | nums=>exact readNums_spec C off hC hlow ws b hw
 | flps=>exact readFlps_spec C off hC hlow ws b hw
def demote:AV→AV
 | .sl sz es .full=>.d (.sl sz es)
 | v=>v
theorem qXg (f:Fld):demote (qDv f)=qDv f:=by cases f <;> rfl
theorem qLn:∀ C:List AV,AllLe C (C.map demote)
 | []=>trivial
 | c::C=>⟨by unfold demote;split <;> first | exact .dat | exact .refl _,qLn C⟩
def qPf:List (Shp×Nat)→List AV→List (List UInt8)→Bool→List AV×(List (List UInt8)×Bool)
 | [],C,ws,b=>(C,ws,b)
 | (s,o)::l,C,ws,b=>qPf l (C.set o (qDv (rdS s (hdW ws)).1)) ws.tail (b||ws.isEmpty||!(rdS s (hdW ws)).2)
def qMg:List Shp→List (List UInt8)→Bool→List Fld×(List (List UInt8)×Bool)
 | [],ws,b=>([],ws,b)
 | s::l,ws,b=>((rdS s (hdW ws)).1::(qMg l ws.tail (b||ws.isEmpty||!(rdS s (hdW ws)).2)).1,(qMg l ws.tail (b||ws.isEmpty||!(rdS s (hdW ws)).2)).2)
def qYo:List (Shp×Nat)→List Fld→List AV→List AV
 | (_,o)::l,f::fs,C=>qYo l fs (C.set o (qDv f))
 | _,_,C=>C
theorem runS_demote:∀ (l:List (Shp×Nat)) (C:List AV) (ws:List (List UInt8)) (b:Bool),qPf l (C.map demote) ws b=((qPf l C ws b).1.map demote,(qPf l C ws b).2)
 | [],C,ws,b=>rfl
 | (s,o)::l,C,ws,b=>by
  rw [qPf,qPf,← runS_demote l,List.map_set,qXg]
theorem runS_len:∀ (l:List (Shp×Nat)) (C:List AV) (ws:List (List UInt8)) (b:Bool),(qPf l C ws b).1.length=C.length
 | [],C,ws,b=>rfl
 | (s,o)::l,C,ws,b=>by
  rw [qPf,runS_len l,List.length_set]
theorem runS_F:∀ (l:List (Shp×Nat)) (C:List AV) (ws:List (List UInt8)) (b:Bool),qPf l C ws b=(qYo l (qMg (l.map (·.1)) ws b).1 C,(qMg (l.map (·.1)) ws b).2)
 | [],C,ws,b=>rfl
 | (s,o)::l,C,ws,b=>by
  rw [qPf,runS_F l]
  rfl
theorem runF_shp:∀ (l:List Shp) (ws:List (List UInt8)) (b:Bool),(qMg l ws b).1.map qDr=l
 | [],ws,b=>rfl
 | s::l,ws,b=>by
  simp only [qMg,List.map_cons,vEl,runF_shp l]
theorem runF_bad:∀ (l:List Shp) (ws:List (List UInt8)),(qMg l ws true).2.2=true
 | [],ws=>rfl
 | s::l,ws=>by
  simp only [qMg,Bool.true_or]
  exact runF_bad l _
theorem runF_rd:∀ (l:List Shp) (ws:List (List UInt8)),qHw l ws=if !(qMg l ws false).2.2&&(qMg l ws false).2.1.isEmpty then some (qMg l ws false).1 else none
 | [],[]=>rfl
 | [],_::_=>rfl
 | s::l,[]=>by
  have:(qMg (s::l) [] false).2.2=true:=by
   simp only [qMg,List.isEmpty_nil,Bool.or_true,Bool.true_or]
   exact runF_bad l _
  rw [this];rfl
 | s::l,w::ws=>by
  rw [qHw,rdF_S]
  by_cases h:(rdS s w).2=true
  ·have e:qMg (s::l) (w::ws) false=((rdS s w).1::(qMg l ws false).1,(qMg l ws false).2):=by
    simp only [qMg,hdW,List.headD_cons,h,List.isEmpty_cons,Bool.false_or,Bool.not_true,List.tail_cons]
   rw [e,if_pos h,runF_rd l ws]
   by_cases h2:(!(qMg l ws false).2.2&&(qMg l ws false).2.1.isEmpty)=true
   ·rw [if_pos h2,if_pos h2]
   ·rw [if_neg h2,if_neg h2]
  ·have:(qMg (s::l) (w::ws) false).2.2=true:=by
    simp only [Bool.not_eq_true] at h
    simp only [qMg,hdW,List.headD_cons,h,Bool.not_false,Bool.or_true]
    exact runF_bad l _
   rw [this,if_neg h];rfl
theorem vBw (k:Int):(qBg k).map (·.1)=qBy k:=by
 unfold qBg qBy
 repeat' split
 all_goals rfl
theorem setAll_act {k:Int} {fs:List Fld} (hk:1≤k∧k≤11) (h:fs.map qDr=qBy k):qYo (qBg k) fs (qBn { akt0 with kind:=k } [])=qBn (qNl k fs) []∧(qNl k fs).kind=k∧(qNl k fs).pts=0:=by
 have e1:∀ {f:Fld},qDr f=.num→∃ n,f=.num n:=fun {f} h=>by cases f <;> first | exact ⟨_,rfl⟩ | cases h
 have e2:∀ {f:Fld},qDr f=.txt→∃ n,f=.txt n:=fun {f} h=>by cases f <;> first | exact ⟨_,rfl⟩ | cases h
 have e3:∀ {f:Fld},qDr f=.rst→∃ n,f=.rst n:=fun {f} h=>by cases f <;> first | exact ⟨_,rfl⟩ | cases h
 have e4:∀ {f:Fld},qDr f=.flg→∃ n,f=.flg n:=fun {f} h=>by cases f <;> first | exact ⟨_,rfl⟩ | cases h
 have e5:∀ {f:Fld},qDr f=.nums→∃ n,f=.nums n:=fun {f} h=>by cases f <;> first | exact ⟨_,rfl⟩ | cases h
 have e6:∀ {f:Fld},qDr f=.flps→∃ n,f=.flps n:=fun {f} h=>by cases f <;> first | exact ⟨_,rfl⟩ | cases h
 rcases (by omega:k=1∨k=2∨k=3∨k=4∨k=5∨k=6∨k=7∨k=8∨k=9∨k=10∨k=11) with rfl | rfl | rfl | rfl | rfl | rfl | rfl | rfl | rfl | rfl | rfl
 ·obtain ⟨f1,fs,rfl,h1,h⟩:=List.map_eq_cons_iff.1 (show fs.map qDr=[.num] from h)
  obtain rfl:=List.map_eq_nil_iff.1 h
  obtain ⟨n,rfl⟩:=e1 h1
  exact ⟨rfl,rfl,rfl⟩
 ·obtain ⟨f1,fs,rfl,h1,h⟩:=List.map_eq_cons_iff.1 (show fs.map qDr=[.txt,.txt] from h)
  obtain ⟨f2,fs,rfl,h2,h⟩:=List.map_eq_cons_iff.1 h
  obtain rfl:=List.map_eq_nil_iff.1 h
  obtain ⟨n,rfl⟩:=e2 h1
  obtain ⟨m,rfl⟩:=e2 h2
  exact ⟨rfl,rfl,rfl⟩
 ·obtain ⟨f1,fs,rfl,h1,h⟩:=List.map_eq_cons_iff.1 (show fs.map qDr=[.num] from h)
  obtain rfl:=List.map_eq_nil_iff.1 h
  obtain ⟨n,rfl⟩:=e1 h1
  exact ⟨rfl,rfl,rfl⟩
 ·obtain ⟨f1,fs,rfl,h1,h⟩:=List.map_eq_cons_iff.1 (show fs.map qDr=[.num,.txt,.txt,.txt,.txt,.txt,.txt,.num,.flg,.nums,.nums] from h)
  obtain ⟨f2,fs,rfl,h2,h⟩:=List.map_eq_cons_iff.1 h
  obtain ⟨f3,fs,rfl,h3,h⟩:=List.map_eq_cons_iff.1 h
  obtain ⟨f4,fs,rfl,h4,h⟩:=List.map_eq_cons_iff.1 h
  obtain ⟨f5,fs,rfl,h5,h⟩:=List.map_eq_cons_iff.1 h
  obtain ⟨f6,fs,rfl,h6,h⟩:=List.map_eq_cons_iff.1 h
  obtain ⟨f7,fs,rfl,h7,h⟩:=List.map_eq_cons_iff.1 h
  obtain ⟨f8,fs,rfl,h8,h⟩:=List.map_eq_cons_iff.1 h
  obtain ⟨f9,fs,rfl,h9,h⟩:=List.map_eq_cons_iff.1 h
  obtain ⟨f10,fs,rfl,h10,h⟩:=List.map_eq_cons_iff.1 h
  obtain ⟨f11,fs,rfl,h11,h⟩:=List.map_eq_cons_iff.1 h
  obtain rfl:=List.map_eq_nil_iff.1 h
  obtain ⟨n1,rfl⟩:=e1 h1
  obtain ⟨n2,rfl⟩:=e2 h2
  obtain ⟨n3,rfl⟩:=e2 h3
  obtain ⟨n4,rfl⟩:=e2 h4
  obtain ⟨n5,rfl⟩:=e2 h5
  obtain ⟨n6,rfl⟩:=e2 h6
  obtain ⟨n7,rfl⟩:=e2 h7
  obtain ⟨n8,rfl⟩:=e1 h8
  obtain ⟨n9,rfl⟩:=e4 h9
  obtain ⟨n10,rfl⟩:=e5 h10
  obtain ⟨n11,rfl⟩:=e5 h11
  exact ⟨rfl,rfl,rfl⟩
 ·obtain ⟨f1,fs,rfl,h1,h⟩:=List.map_eq_cons_iff.1 (show fs.map qDr=[.num,.num] from h)
  obtain ⟨f2,fs,rfl,h2,h⟩:=List.map_eq_cons_iff.1 h
  obtain rfl:=List.map_eq_nil_iff.1 h
  obtain ⟨n,rfl⟩:=e1 h1
  obtain ⟨m,rfl⟩:=e1 h2
  exact ⟨rfl,rfl,rfl⟩
 ·obtain ⟨f1,fs,rfl,h1,h⟩:=List.map_eq_cons_iff.1 (show fs.map qDr=[.num,.num] from h)
  obtain ⟨f2,fs,rfl,h2,h⟩:=List.map_eq_cons_iff.1 h
  obtain rfl:=List.map_eq_nil_iff.1 h
  obtain ⟨n,rfl⟩:=e1 h1
  obtain ⟨m,rfl⟩:=e1 h2
  exact ⟨rfl,rfl,rfl⟩
 ·obtain ⟨f1,fs,rfl,h1,h⟩:=List.map_eq_cons_iff.1 (show fs.map qDr=[.num,.num,.num] from h)
  obtain ⟨f2,fs,rfl,h2,h⟩:=List.map_eq_cons_iff.1 h
  obtain ⟨f3,fs,rfl,h3,h⟩:=List.map_eq_cons_iff.1 h
  obtain rfl:=List.map_eq_nil_iff.1 h
  obtain ⟨n,rfl⟩:=e1 h1
  obtain ⟨m,rfl⟩:=e1 h2
  obtain ⟨q,rfl⟩:=e1 h3
  exact ⟨rfl,rfl,rfl⟩
 ·obtain ⟨f1,fs,rfl,h1,h⟩:=List.map_eq_cons_iff.1 (show fs.map qDr=[.num,.num] from h)
  obtain ⟨f2,fs,rfl,h2,h⟩:=List.map_eq_cons_iff.1 h
  obtain rfl:=List.map_eq_nil_iff.1 h
  obtain ⟨n,rfl⟩:=e1 h1
  obtain ⟨m,rfl⟩:=e1 h2
  exact ⟨rfl,rfl,rfl⟩
 ·obtain ⟨f1,fs,rfl,h1,h⟩:=List.map_eq_cons_iff.1 (show fs.map qDr=[.num,.txt] from h)
  obtain ⟨f2,fs,rfl,h2,h⟩:=List.map_eq_cons_iff.1 h
  obtain rfl:=List.map_eq_nil_iff.1 h
  obtain ⟨n,rfl⟩:=e1 h1
  obtain ⟨m,rfl⟩:=e2 h2
  exact ⟨rfl,rfl,rfl⟩
 ·obtain ⟨f1,fs,rfl,h1,h⟩:=List.map_eq_cons_iff.1 (show fs.map qDr=[.num,.num,.nums,.flps] from h)
  obtain ⟨f2,fs,rfl,h2,h⟩:=List.map_eq_cons_iff.1 h
  obtain ⟨f3,fs,rfl,h3,h⟩:=List.map_eq_cons_iff.1 h
  obtain ⟨f4,fs,rfl,h4,h⟩:=List.map_eq_cons_iff.1 h
  obtain rfl:=List.map_eq_nil_iff.1 h
  obtain ⟨n,rfl⟩:=e1 h1
  obtain ⟨m,rfl⟩:=e1 h2
  obtain ⟨q,rfl⟩:=e5 h3
  obtain ⟨r,rfl⟩:=e6 h4
  exact ⟨rfl,rfl,rfl⟩
 ·obtain ⟨f1,fs,rfl,h1,h⟩:=List.map_eq_cons_iff.1 (show fs.map qDr=[.txt,.rst] from h)
  obtain ⟨f2,fs,rfl,h2,h⟩:=List.map_eq_cons_iff.1 h
  obtain rfl:=List.map_eq_nil_iff.1 h
  obtain ⟨n,rfl⟩:=e2 h1
  obtain ⟨m,rfl⟩:=e3 h2
  exact ⟨rfl,rfl,rfl⟩
def qRx (s:List UInt8):List AV×Bool :=
 if qBh (hdW (spl 32 s))=0 then (qBn akt0 [],false) else
  ((qPf (qBg (qBh (hdW (spl 32 s)))) (qBn { akt0 with kind:=qBh (hdW (spl 32 s)) } []) ((if qBh (hdW (spl 32 s))=11 then qGx 32 2 s else spl 32 s).drop 1) false).1,
    !(qPf (qBg (qBh (hdW (spl 32 s)))) (qBn { akt0 with kind:=qBh (hdW (spl 32 s)) } []) ((if qBh (hdW (spl 32 s))=11 then qGx 32 2 s else spl 32 s).drop 1) false).2.2 &&
    (qPf (qBg (qBh (hdW (spl 32 s)))) (qBn { akt0 with kind:=qBh (hdW (spl 32 s)) } []) ((if qBh (hdW (spl 32 s))=11 then qGx 32 2 s else spl 32 s).drop 1) false).2.1.isEmpty)
theorem kindN_range (w:List UInt8):0≤qBh w∧qBh w≤11:=by
 unfold qBh
 repeat' split
 all_goals omega
theorem scanC_F (s:List UInt8):(∃ x,qHr s=some x∧qRx s=(qBn x [],true)∧(1≤x.kind∧x.kind≤11)∧x.pts=0)∨(qHr s=none∧∃ x,qRx s=(qBn x [],false)∧x.pts=0):=by
 obtain ⟨w,ws,hs⟩:∃ w ws,spl 32 s=w::ws:=by
  cases h:spl 32 s with
  | nil=>exact absurd h (qEy _ _)
  | cons w ws=>exact ⟨w,ws,rfl⟩
 have hr:=kindN_range w
 have hh:hdW (spl 32 s)=w:=by rw [hs];rfl
 unfold qHr qRx
 rw [hh,hs]
 simp only
 by_cases h0:qBh w=0
 ·simp only [if_pos h0]
  exact .inr ⟨trivial,akt0,rfl,rfl⟩
 ·simp only [if_neg h0]
  have e:((if qBh w=11 then qGx 32 2 s else w::ws).drop 1)=(if qBh w=11 then (qGx 32 2 s).drop 1 else ws):=by split <;> rfl
  rw [e]
  generalize (if qBh w=11 then (qGx 32 2 s).drop 1 else ws)=us
  generalize qBh w=k at hr h0 ⊢
  rw [runS_F,vBw,runF_rd]
  obtain ⟨hset,hk1,hk2⟩:=setAll_act (k:=k) (by omega) (runF_shp (qBy k) us false)
  rw [hset]
  generalize qMg (qBy k) us false=p at hk1 hk2 ⊢
  by_cases h2:(!p.2.2&&p.2.1.isEmpty)=true
  ·refine .inl ⟨qNl k p.1,?_,?_,?_,hk2⟩
   ·rw [if_pos h2];rfl
   ·rw [h2]
   ·rw [hk1];omega
  ·refine .inr ⟨?_,qNl k p.1,?_,hk2⟩
   ·rw [if_neg h2];rfl
   ·rw [Bool.not_eq_true] at h2;rw [h2]
theorem vCo (w:List UInt8):IntKind.i64.wrap (qPe qBt w+1)=qBh w:=by
 have h1:=qZp w
 have h2:=kindN_range w
 rw [h1,qAh (by omega)]
theorem splN_part_len {c:UInt8}:∀ (k:Nat) (s:List UInt8),∀ w,w∈qGx c k s→w.length≤s.length
 | 0,s,w,h=>by rw [qGx,List.mem_singleton] at h;subst h;exact Nat.le_refl _
 | k+1,s,w,h=>by
  have hp:=qBs (c:=c) s
  have hj:=qGe c s
  rw [qGx] at h
  cases hs:spl c s with
  | nil=>exact absurd hs (qEy _ _)
  | cons v l =>
   rw [hs] at h hp hj
   cases l with
   | nil=>simp only [List.mem_singleton] at h;subst h;exact hp _ List.mem_cons_self
   | cons u l =>
    simp only at h
    rcases List.mem_cons.1 h with rfl | h
    ·exact hp _ List.mem_cons_self
    ·have:=splN_part_len k _ w h
     rw [qDn c v (by simp)] at hj
     have h2:=congrArg List.length hj
     simp only [List.length_append,List.length_cons] at h2
     omega
theorem splN_ne {c:UInt8}:∀ (k:Nat) (s:List UInt8),qGx c k s≠[]
 | 0,s=>by simp [qGx]
 | k+1,s=>by
  rw [qGx]
  cases hs:spl c s with
  | nil=>simp
  | cons v l=>cases l <;> simp
def qJm (k:Int):List AV:=[.d (.int .i64 k),.d (.int .i64 0),.d (.int .i64 0),.d (.int .i64 0),.d (.str []),.d (.str []),.d (.str []),.d (.str []),.d (.str []),.d (.str []),.d (.str []),.d (.str []),.d (.int .i64 0),.sl 1 [] .full,.d (.bool false),.sl 5 [] .full,.d (.int .i64 0),.sl 1 [] .full,.sl 1 [] .full,.sl 3 [] .full]
theorem qMw:∀ C:List AV,qBl 0 C=true→qBl 0 (C.map demote)=true
 | [],_=>rfl
 | c::C,h=>by
  simp only [qBl,Bool.and_eq_true,List.map_cons] at h ⊢
  refine ⟨?_,qMw C h.2⟩
  unfold demote
  split
  ·rfl
  ·exact h.1
theorem actZ_demote (k:Int):(qJm k).map demote=qBn { akt0 with kind:=k } []:=rfl
def vFm (i:Nat) (l:List (Shp×Nat)):List AV:=l.map fun x=>.ifa (tyS x.1) (.ptr i x.2)
theorem renL_ifa (f:Nat→Nat):∀ l:List (Shp×Nat),qHv f (qDi l)=vFm (f 0) l
 | []=>rfl
 | x::l=>by
  show ren f (.ifa (tyS x.1) (.ptr 0 x.2))::qHv f (qDi l)=_
  rw [renL_ifa f l];rfl
def Zs (l:List (Shp×Nat)) (C:List AV):Prop:=∀ x,x∈l→C[x.2]?=some (qYd x.1)
theorem vGl {x:Shp×Nat} {l:List (Shp×Nat)} {C:List AV} {v:AV} (h:Zs (x::l) C) (hn:((x::l).map (·.2)).Nodup):Zs l (C.set x.2 v):=fun y hy=>by
 have h1:=h y (List.mem_cons_of_mem _ hy)
 rw [List.map_cons,List.nodup_cons] at hn
 have hne:x.2≠y.2:=fun hh=>hn.1 (by rw [hh];exact List.mem_map_of_mem hy)
 rw [List.getElem?_set_ne hne,h1]
theorem qBm {x:Shp×Nat} {l:List (Shp×Nat)} {C:List AV} (h:C[x.2]?=some (qYd x.1)) (hl:Zs l C):Zs (x::l) C:=fun y hy=>by
 rcases List.mem_cons.1 hy with rfl | hy
 ·exact h
 ·exact hl y hy
theorem qGi (C:List AV):Zs [] C:=fun y hy=>by cases hy
theorem qWx {k:Int} (h:1≤k∧k≤11):((qBg k).map (·.2)).Nodup∧Zs (qBg k) (qJm k)∧(qBg k).length≤11:=by
 rcases (by omega:k=1∨k=2∨k=3∨k=4∨k=5∨k=6∨k=7∨k=8∨k=9∨k=10∨k=11) with rfl | rfl | rfl | rfl | rfl | rfl | rfl | rfl | rfl | rfl | rfl
 ·exact ⟨by decide,qBm rfl (qGi _),by decide⟩
 ·exact ⟨by decide,qBm rfl (qBm rfl (qGi _)),by decide⟩
 ·exact ⟨by decide,qBm rfl (qGi _),by decide⟩
 ·exact ⟨by decide,qBm rfl (qBm rfl (qBm rfl (qBm rfl (qBm rfl (qBm rfl (qBm rfl (qBm rfl (qBm rfl (qBm rfl (qBm rfl (qGi _))))))))))),by decide⟩
 ·exact ⟨by decide,qBm rfl (qBm rfl (qGi _)),by decide⟩
 ·exact ⟨by decide,qBm rfl (qBm rfl (qGi _)),by decide⟩
 ·exact ⟨by decide,qBm rfl (qBm rfl (qBm rfl (qGi _))),by decide⟩
 ·exact ⟨by decide,qBm rfl (qBm rfl (qGi _)),by decide⟩
 ·exact ⟨by decide,qBm rfl (qBm rfl (qGi _)),by decide⟩
 ·exact ⟨by decide,qBm rfl (qBm rfl (qBm rfl (qBm rfl (qGi _)))),by decide⟩
 ·exact ⟨by decide,qBm rfl (qBm rfl (qGi _)),by decide⟩
theorem qDa {C:List AV} (h:C.length=20):qEv T 33 C 0=some (.agg C):=loadA_agg rfl rfl (by rw [h];exact Nat.le_refl _) (List.take_of_length_le (by rw [List.length_drop,h];exact Nat.le_refl _))
theorem qEl {C D:List AV} (h1:D.length=20) (h2:C.length=20):qDz T 33 D 0 (.agg C)=some C:=storeA_agg rfl h2 (by rw [h1];exact Nat.le_refl _) (setRun_full (by rw [h1,h2]))
theorem qPd (s:List UInt8) (hs:s.length≤1000000):Spec Tryz.prog 10 [.d (.str s)] [] (fun r h'=>r=.tup [.agg (qRx s).1,.d (.bool (qRx s).2)]∧h'=[]):=by
 have hsp:=qGt 32 s hs
 have hspN:=qTk 32 s hs
 obtain ⟨w,ws,hws⟩:∃ w ws,spl 32 s=w::ws:=by
  cases h:spl 32 s with
  | nil=>exact absurd h (qEy _ _)
  | cons w ws=>exact ⟨w,ws,rfl⟩
 have hhd:hdW (spl 32 s)=w:=by rw [hws];rfl
 have hix:=qNd qBt w (by decide)
 have hkw:=vCo w
 have hkr:=kindN_range w
 have hat0:(qAg (spl 32 s))[((0:Int)).toNat]?=some [.str w]:=by rw [hws];rfl
 obtain ⟨L,hL⟩:∃ L,L=(if qBh w=11 then qGx 32 2 s else spl 32 s):=⟨_,rfl⟩
 have hLm:∀ v,v∈L→v.length≤1000000:=by
  rw [hL]
  split
  ·exact fun v hv=>Nat.le_trans (splN_part_len 2 s v hv) hs
  ·exact fun v hv=>Nat.le_trans (qBs s v hv) hs
 have hLn:1≤(qAg L).length:=by
  rw [strsAV_length,hL]
  split
  ·exact List.length_pos_iff.2 (splN_ne _ _)
  ·exact List.length_pos_iff.2 (qEy _ _)
 unfold qRx
 rw [hhd,← hL]
 generalize qPe qBt w=j at hix hkw
 have hsl:(qAg (spl 32 s)).length=ws.length+1:=by rw [hws];simp [qAg]
 generalize hS0:qAg (spl 32 s)=S0 at hsp hat0 hsl
 generalize hS1:qAg (qGx 32 2 s)=S1 at hspN
 refine qAb hT Tryz.func10 rfl rfl rfl rfl ?_;intro E hE
 refine ww ?_
 refine wwc hsp ?_
 refine ww ?_
 refine wwc namesC_spec ?_
 refine ww ?_
 refine wwi hat0 ?_
 refine ww ?_
 refine wwc hix ?_
 refine ww ?_
 refine qHn (Q:=fun e τ h=>e=.normal∧SubL τ [(2,.ptr 0 0),(4,.d (.sl 1 (qAg L))),(5,.I (qBh w))]∧HLe h [.row (qJm 0)]) ?_ ?_
 ·refine qAa rfl (fun c1=>?_) (fun c1=>?_)
  ·have c1':qBh w=11:=by rw [← hkw];simpa using c1
   rw [if_pos c1'] at hL
   refine ww ?_
   refine wwc hspN ?_
   refine ww ?_
   exact ⟨rfl,⟨.refl _,AV.le.eq (by rw [hL,hS1];rfl),.int hkw,trivial⟩,HLe.refl _⟩
  ·have c1':¬ qBh w=11:=by rw [← hkw];simpa using c1
   rw [if_neg c1'] at hL
   refine ww ?_
   exact ⟨rfl,⟨.refl _,AV.le.eq (by rw [hL,hS0];rfl),.int hkw,trivial⟩,HLe.refl _⟩
 rintro e τ h ⟨rfl,hsub,hle⟩
 refine qAi hsub hle ?_
 clear hsub hle hL hspN hsp hat0 hix hkw hsl hws hhd hS0 hS1
 generalize qBh w=k at hkr ⊢
 obtain ⟨us,hus⟩:∃ us,us=L.drop 1:=⟨_,rfl⟩
 have hum:∀ v,v∈us→v.length≤1000000:=fun v hv=>hLm v (by rw [hus] at hv;exact List.mem_of_mem_drop hv)
 have hud:(qAg L).drop (Int.toNat 1)=qAg us:=by rw [hus,show Int.toNat 1=1 from rfl];unfold qAg;rw [List.map_drop]
 rw [← hus]
 clear hus hLm
 generalize qAg L=LA at hLn hud ⊢
 refine qAq ?_
 refine qAf (qAc ?_)
 refine wk hT rfl rfl ?_
 refine wk hT rfl rfl ?_
 rw [hud]
 refine ww ?_
 refine qAa rfl (fun c2=>?_) (fun c2=>?_)
 ·have c2':k=0:=by simpa using c2
  rw [if_pos c2']
  refine ww ?_
  exact rq ⟨rfl,rfl⟩ rfl (AV.le.tup ⟨AV.le.agg ⟨.refl _,.refl _,.refl _,.refl _,.refl _,.refl _,.refl _,.refl _,.refl _,.refl _,.refl _,.refl _,.refl _,.dat,.refl _,.dat,.refl _,.dat,.dat,.dat,trivial⟩,.refl _,trivial⟩)
 have c2':¬ k=0:=by simpa using c2
 rw [if_neg c2']
 have hf:=fieldsC_spec k (qJm k).tail rfl (by omega)
 obtain ⟨hnd,hzs,hn11⟩:=qWx (k:=k) (by omega)
 have hrun:=runS_demote (qBg k) (qJm k) us false
 rw [actZ_demote] at hrun
 have hrl:=runS_len (qBg k) (qJm k) us false
 rw [hrun]
 clear hrun
 simp only
 generalize hfin:qPf (qBg k) (qJm k) us false=fin at hrl ⊢
 generalize qBg k=of at hf hnd hzs hn11 hfin
 refine ww ?_
 refine qAd (qFd (v:=.row 1 0 of.length of.length) (H':=[.row (qJm 0),.row (qHv (fsf [3,1]) (qDi of)),.row (scO us false),.row (qJm k)]) rfl rfl hf [3,1] (by decide) rfl rfl rfl rfl rfl rfl) rfl ?_
 rw [renL_ifa]
 refine ww ?_
 refine qAn (ι:=Nat×List AV×List (List UInt8)×Bool) (fun x=>[(2,.ptr 0 0),(6,.ptr 2 0),(7,.ptr 3 0),(31,.row 1 0 of.length of.length),(32,.I (of.length:Int)),(33,.I (x.1:Int))])
  (fun x=>[.row (qJm 0),.row (vFm 3 of),.row (scO x.2.2.1 x.2.2.2),.row x.2.1])
  (fun x=>x.1≤of.length∧qPf (of.drop x.1) x.2.1 x.2.2.1 x.2.2.2=fin∧((of.drop x.1).map (·.2)).Nodup∧Zs (of.drop x.1) x.2.1∧qBl 0 x.2.1=true∧∀ v,v∈x.2.2.1→v.length≤1000000) (fun x=>of.length-x.1) (0,qJm k,us,false)
  ⟨Nat.zero_le _,hfin,hnd,hzs,rfl,hum⟩ yf (HLe.refl _) ?_
 rintro ⟨i,C,vs,b⟩ ⟨hi,hr,hn,hz,hlo,hv⟩
 simp only at hi hr hn hz hlo hv ⊢
 refine ww ?_
 refine qAa rfl (fun c3=>?_) (fun c3=>?_)
 ·have hi':i < of.length:=by simp at c3;omega
  have hd:of.drop i=of[i]::of.drop (i+1):=List.drop_eq_getElem_cons hi'
  have hcell:(vFm 3 of)[0+((i:Int)).toNat*1]?=some (.ifa (tyS of[i].1) (.ptr 3 of[i].2)):=by simp [vFm,hi']
  rw [hd] at hr hn hz
  have hC:=hz of[i] List.mem_cons_self
  have hz2:=vGl (v:=qDv (rdS of[i].1 (hdW vs)).1) hz hn
  rw [List.map_cons,List.nodup_cons] at hn
  have hn2:=hn.2
  clear hn hz hd
  generalize of[i]=so at hcell hr hC hz2
  obtain ⟨s1,o1⟩:=so
  simp only at hcell hC hz2
  rw [qPf] at hr
  have hw:(hdW vs).length≤1000000:=by
   cases vs with
   | nil=>simp [hdW]
   | cons v vs=>exact hv v List.mem_cons_self
  have hR:=readC_spec s1 C o1 hC (lowL_mono (Nat.zero_le 2) C hlo) vs b hw
  have hlo2:=lowL_set (v:=qDv (rdS s1 (hdW vs)).1) (vFp 0 _) C o1 hlo
  have hv2:∀ v,v∈vs.tail→v.length≤1000000:=fun v h=>hv v (List.mem_of_mem_tail h)
  generalize (b||vs.isEmpty||!(rdS s1 (hdW vs)).2)=b2 at hr hR
  generalize qDv (rdS s1 (hdW vs)).1=fv at hr hR hz2 hlo2
  generalize vs.tail=vt at hr hR hv2
  have hl1:qCn 0 [AObj.row C,.row (scO vs b)]=true:=by show (qBl 0 C&&(qBl 0 (scO vs b)&&true))=true;rw [hlo];rfl
  have hl2:qCn 0 [AObj.row (C.set o1 fv),.row (scO vt b2)]=true:=by show (qBl 0 (C.set o1 fv)&&(qBl 0 (scO vt b2)&&true))=true;rw [hlo2];rfl
  refine ww ?_
  refine qAd (qAe (rowAddr_ok (sz:=1) hT rfl rfl rfl rfl (by omega))) rfl ?_
  refine qAd (qCv (i:=1) hT rfl rfl rfl rfl rfl hcell) rfl ?_
  refine ww ?_
  refine qAd (qAk rfl rfl hR [3,2] (by decide) rfl rfl rfl hl1 hl2 rfl rfl) rfl ?_
  refine ww ?_
  exact ⟨(i+1,C.set o1 fv,vt,b2),⟨hi',hr,hn2,hz2,hlo2,hv2⟩,by simp only;omega,⟨.refl _,.refl _,.refl _,.refl _,.refl _,.int (by rw [qAh (by omega)];omega),trivial⟩,HLe.refl _⟩
 have hi':i=of.length:=by simp at c3;omega
 subst hi'
 rw [List.drop_length,qPf] at hr
 subst hr
 simp only at hrl ⊢
 have hC20:C.length=20:=hrl
 have hvl:=strsAV_length vs
 have hlow:=hlo
 refine qBr ?_
 refine qAf ?_
 refine qAv (fun i=>bif Nat.beq i 0 then [3] else bif Nat.beq i 14 then [0] else [2]) (fun i=>bif Nat.beq i 14 then [0] else []) mixed (by kernel_rfl) ?_
 refine qAm (os:=[]) (v:=.agg C) (fun k hk hr=>qAo (i:=3) (off:=0) hT rfl rfl ((hr 3 (List.mem_singleton.2 rfl)).trans rfl) (qDa hC20)) rfl ?_
 refine wwg ?_
 refine qFf hT rfl (fun _=>rfl) rfl rfl rfl ?_
 refine qFf hT rfl (fun _=>rfl) rfl rfl rfl ?_
 refine qFf hT rfl (fun _=>rfl) rfl rfl rfl ?_
 refine vGp (v:=.d (.sl 1 (qAg vs))) rfl rfl rfl rfl (fun hg=>⟨(sg (C:=True) hg).1,fun k hk hr=>qAo (i:=2) (off:=0) (cells:=scO vs b) hT rfl rfl ((hr 2 (List.mem_singleton.2 rfl)).trans rfl) rfl⟩) ?_
 refine qFf hT rfl (fun _=>rfl) rfl rfl rfl ?_
 refine qFf hT rfl (fun _=>rfl) rfl rfl rfl ?_
 refine wwg ?_
 refine qAm (os:=[.row C]) (v:=.any) (fun k hk hr=>qAp (i:=0) (off:=0) hT rfl rfl ((hr 0 (List.mem_singleton.2 rfl)).trans rfl) (qEl (C:=C) rfl hC20)) rfl ?_
 refine wwg ?_
 refine ww ?_
 have he:(!b&&(((qAg vs).length:Int) == 0))=(!b&&vs.isEmpty):=by
  rw [hvl]
  cases vs with
  | nil=>rfl
  | cons v vs =>
   have h1:((((v::vs).length:Nat):Int) == 0)=false:=by simp;omega
   rw [h1];rfl
 rw [← he]
 match C,hC20 with
 | [c0,c1,c2,c3,c4,c5,c6,c7,c8,c9,c10,c11,c12,c13,c14,c15,c16,c17,c18,c19],_ =>
  have hdl:=qMw _ hlow
  exact rq (v:=.tup [.agg [c0,c1,c2,c3,c4,c5,c6,c7,c8,c9,c10,c11,c12,c13,c14,c15,c16,c17,c18,c19],.d (.bool (!b&&(((qAg vs).length:Int) == 0)))]) ⟨rfl,rfl⟩ rfl (AV.le.tup ⟨AV.le.agg (qLn [c0,c1,c2,c3,c4,c5,c6,c7,c8,c9,c10,c11,c12,c13,c14,c15,c16,c17,c18,c19]),.refl _,trivial⟩) rfl rfl (by show (qBl 0 ([c0,c1,c2,c3,c4,c5,c6,c7,c8,c9,c10,c11,c12,c13,c14,c15,c16,c17,c18,c19].map demote)&&(true&&true))=true;rw [hdl];rfl) rfl
theorem vFr {α:Type} [DecidableEq α] {l m:List α} {k:Nat} (h1:k < l.length) (h2:k < m.length) (h:l[k]≠m[k]):decide (l=m)=false:=decide_eq_false fun hh=>by subst hh;exact h rfl
theorem qZw {α:Type} [DecidableEq α] {l m:List α} (hl:l.length=m.length) (h:∀ j,(hj:j < l.length)→(hj2:j < m.length)→l[j]=m[j]):decide (l=m)=true:=decide_eq_true (List.ext_getElem hl fun i h1 h2=>h i h1 h2)
theorem qHl (l m:List Int) (hl:l.length≤1000000):Spec Tryz.prog 61 [.d (.sl 1 (qAl l)),.d (.sl 1 (qAl m))] [] (fun r h'=>r=.d (.bool (decide (l=m)))∧h'=[]):=by
 have hel:=encI_length l
 have hem:=encI_length m
 by_cases hlm:l.length=m.length
 case neg =>
  rw [decide_eq_false (fun hh=>hlm (by rw [hh]))]
  refine qAb hT Tryz.func61 rfl rfl rfl rfl ?_;intro E hE
  refine ww ?_
  refine qAa rfl (fun q=>?_) (fun q=>?_)
  ·refine ww ?_
   exact wwr
  ·exfalso
   rw [hel,hem] at q
   simp at q
   omega
 generalize hfin:decide (l=m)=fin
 have hno:∀ k,(h1:k < l.length)→(h2:k < m.length)→l[k]≠m[k]→fin=false:=fun k h1 h2 h=>by rw [← hfin];exact vFr h1 h2 h
 have hyes:(∀ j,(hj:j < l.length)→(hj2:j < m.length)→l[j]=m[j])→fin=true:=fun h=>by rw [← hfin];exact qZw hlm h
 clear hfin
 refine qAb hT Tryz.func61 rfl rfl rfl rfl ?_;intro E hE
 refine ww ?_
 refine qAa rfl (fun q=>?_) (fun q=>?_)
 ·exfalso
  rw [hel,hem,hlm] at q
  simp at q
 refine ww ?_
 refine qAn (ι:=Nat) (fun k=>[(0,.d (.sl 1 (qAl l))),(1,.d (.sl 1 (qAl m))),(12,.I (l.length:Int)),(13,.I (k:Int))]) (fun _=>[]) (fun k=>k≤l.length∧∀ j,(hj:j < l.length)→(hj2:j < m.length)→j < k→l[j]=m[j]) (fun k=>l.length-k) 0
  ⟨Nat.zero_le _,fun j h1 h2 h=>by omega⟩ ⟨.refl _,.refl _,.int (by rw [hel]),.refl _,trivial⟩ (HLe.refl _) ?_
 rintro k ⟨hk,hall⟩
 refine ww ?_
 refine qAa rfl (fun c1=>?_) (fun c1=>?_)
 ·have hk':k < l.length:=by simp at c1;omega
  have hk2:k < m.length:=by omega
  have h1:=encI_at hk'
  have h2:=encI_at hk2
  have hno:=hno k hk' hk2
  have hnx:l[k]=m[k]→∀ j,(hj:j < l.length)→(hj2:j < m.length)→j < k+1→l[j]=m[j]:=fun h j hj hj2 h3=>by
   by_cases hjk:j=k
   ·subst hjk;exact h
   ·exact hall j hj hj2 (by omega)
  generalize l[k]=x at h1 hno hnx
  generalize m[k]=y at h2 hno hnx
  refine ww ?_
  refine wwi h1 ?_
  refine ww ?_
  refine wwi h2 ?_
  refine ww ?_
  refine qAa rfl (fun c2=>?_) (fun c2=>?_)
  ·rw [hno (by simpa using c2)]
   refine ww ?_
   exact wwr
  ·refine ww ?_
   exact ⟨k+1,⟨hk',hnx (by simpa using c2)⟩,by omega,⟨.refl _,.refl _,.refl _,.int (by rw [qAh (by omega)];omega),trivial⟩,HLe.refl _⟩
 ·have hk':k=l.length:=by simp at c1;omega
  subst hk'
  rw [hyes fun j hj hj2=>hall j hj hj2 hj]
  refine ww ?_
  exact wwr
theorem qUl (P:List (List Dat)):Spec Tryz.prog 62 [.d (.sl 5 P),.d (.sl 5 [])] [] (fun r h'=>r=.d (.bool (decide (P=[])))∧h'=[]):=by
 by_cases hP:P=[]
 ·subst hP
  refine qAb hT Tryz.func62 rfl rfl rfl rfl ?_;intro E hE
  refine ww ?_
  refine qAa rfl (fun q=>absurd q (by decide)) (fun q=>?_)
  refine ww ?_
  refine qAn (ι:=Unit) (fun _=>[(12,.I 0),(13,.I 0)]) (fun _=>[]) (fun _=>True) (fun _=>0) () trivial yf (HLe.refl _) ?_
  rintro _ _
  refine ww ?_
  refine qAa rfl (fun q=>absurd q (by decide)) (fun q=>?_)
  refine ww ?_
  exact wwr
 ·rw [decide_eq_false hP]
  refine qAb hT Tryz.func62 rfl rfl rfl rfl ?_;intro E hE
  refine ww ?_
  refine qAa rfl (fun q=>?_) (fun q=>?_)
  ·refine ww ?_
   exact wwr
  ·exfalso
   exact hP (by simpa using q)
theorem qRe (l m:List Flp) (hl:l.length≤1000000):Spec Tryz.prog 63 [.d (.sl 3 (qAr l)),.d (.sl 3 (qAr m))] [] (fun r h'=>r=.d (.bool (decide (l=m)))∧h'=[]):=by
 have hel:=encFp_length l
 have hem:=encFp_length m
 by_cases hlm:l.length=m.length
 case neg =>
  rw [decide_eq_false (fun hh=>hlm (by rw [hh]))]
  refine qAb hT Tryz.func63 rfl rfl rfl rfl ?_;intro E hE
  refine ww ?_
  refine qAa rfl (fun q=>?_) (fun q=>?_)
  ·refine ww ?_
   exact wwr
  ·exfalso
   rw [hel,hem] at q
   simp at q
   omega
 generalize hfin:decide (l=m)=fin
 have hno:∀ k,(h1:k < l.length)→(h2:k < m.length)→l[k]≠m[k]→fin=false:=fun k h1 h2 h=>by rw [← hfin];exact vFr h1 h2 h
 have hyes:(∀ j,(hj:j < l.length)→(hj2:j < m.length)→l[j]=m[j])→fin=true:=fun h=>by rw [← hfin];exact qZw hlm h
 clear hfin
 refine qAb hT Tryz.func63 rfl rfl rfl rfl ?_;intro E hE
 refine ww ?_
 refine qAa rfl (fun q=>?_) (fun q=>?_)
 ·exfalso
  rw [hel,hem,hlm] at q
  simp at q
 refine ww ?_
 refine qAn (ι:=Nat) (fun k=>[(0,.d (.sl 3 (qAr l))),(1,.d (.sl 3 (qAr m))),(12,.I (l.length:Int)),(13,.I (k:Int))]) (fun _=>[]) (fun k=>k≤l.length∧∀ j,(hj:j < l.length)→(hj2:j < m.length)→j < k→l[j]=m[j]) (fun k=>l.length-k) 0
  ⟨Nat.zero_le _,fun j h1 h2 h=>by omega⟩ ⟨.refl _,.refl _,.int (by rw [hel]),.refl _,trivial⟩ (HLe.refl _) ?_
 rintro k ⟨hk,hall⟩
 refine ww ?_
 refine qAa rfl (fun c1=>?_) (fun c1=>?_)
 ·have hk':k < l.length:=by simp at c1;omega
  have hk2:k < m.length:=by omega
  have h1:=encFp_at hk'
  have h2:=encFp_at hk2
  have hno:=hno k hk' hk2
  have hnx:l[k]=m[k]→∀ j,(hj:j < l.length)→(hj2:j < m.length)→j < k+1→l[j]=m[j]:=fun h j hj hj2 h3=>by
   by_cases hjk:j=k
   ·subst hjk;exact h
   ·exact hall j hj hj2 (by omega)
  generalize l[k]=x at h1 hno hnx
  generalize m[k]=y at h2 hno hnx
  obtain ⟨x1,x2,x3⟩:=x
  obtain ⟨y1,y2,y3⟩:=y
  simp only at h1 h2
  have hs:qIr [.int .i64 x1,.int .i64 x2,.int .i64 x3] [.int .i64 y1,.int .i64 y2,.int .i64 y3]=true↔(⟨x1,x2,x3⟩:Flp)=⟨y1,y2,y3⟩:=by simp [qIr,qWr]
  refine ww ?_
  refine wwi h1 ?_
  refine ww ?_
  refine wwi h2 ?_
  refine ww ?_
  refine qCb (qAe (structNe_ok (ds:=[.int .i64 x1,.int .i64 x2,.int .i64 x3]) (es:=[.int .i64 y1,.int .i64 y2,.int .i64 y3]) (ks:=[some .i64,some .i64,some .i64]) rfl (by kernel_rfl) (by kernel_rfl) (by kernel_rfl) (by kernel_rfl) rfl rfl rfl rfl)) rfl rfl ?_
  generalize qIr [.int .i64 x1,.int .i64 x2,.int .i64 x3] [.int .i64 y1,.int .i64 y2,.int .i64 y3]=sb at hs ⊢
  refine ww ?_
  refine qAa rfl (fun c2=>?_) (fun c2=>?_)
  ·rw [hno (fun hh=>by rw [hs.2 hh] at c2;cases c2)]
   refine ww ?_
   exact wwr
  ·refine ww ?_
   exact ⟨k+1,⟨hk',hnx (hs.1 (by simpa using c2))⟩,by omega,⟨.refl _,.refl _,.refl _,.int (by rw [qAh (by omega)];omega),trivial⟩,HLe.refl _⟩
 ·have hk':k=l.length:=by simp at c1;omega
  subst hk'
  rw [hyes fun j hj hj2=>hall j hj hj2 hj]
  refine ww ?_
  exact wwr
def qRy (x y:Akt) (P:List (List Dat)):Bool :=
 x.kind == y.kind&&x.a == y.a&&x.b == y.b&&x.n == y.n&&x.state == y.state&&x.text == y.text&&x.number == y.number&&x.sur == y.sur&&x.giv == y.giv&&x.nat == y.nat&&x.bir == y.bir&&x.sex == y.sex&&x.exp == y.exp&&x.basic == y.basic &&
 decide (x.prots=y.prots)&&decide (x.faults=y.faults)&&x.tday == y.tday&&decide (P=[])&&decide (x.cuts=y.cuts)&&decide (x.flips=y.flips)
theorem sameB_iff {x y:Akt} {P:List (List Dat)} (hx:P.length=x.pts) (hy:y.pts=0):qRy x y P=true↔x=y:=by
 obtain ⟨k,a,b,n,st,tx,nu,su,gi,na,bi,se,ex,pr,ba,pt,td,fa,cu,fl⟩:=x
 obtain ⟨k',a',b',n',st',tx',nu',su',gi',na',bi',se',ex',pr',ba',pt',td',fa',cu',fl'⟩:=y
 simp only at hx hy
 subst hy
 have hP:P=[]↔pt=0:=by rw [← hx,List.length_eq_zero_iff]
 unfold qRy
 simp only [Bool.and_eq_true,beq_iff_eq,decide_eq_true_eq,hP,Akt.mk.injEq,and_assoc]
 constructor
 ·rintro ⟨h1,h2,h3,h4,h5,h6,h7,h8,h9,h10,h11,h12,h13,h14,h15,h16,h17,h18,h19,h20⟩
  exact ⟨h1,h2,h3,h4,h5,h6,h7,h8,h9,h10,h11,h12,h13,h15,h14,h18,h17,h16,h19,h20⟩
 ·rintro ⟨h1,h2,h3,h4,h5,h6,h7,h8,h9,h10,h11,h12,h13,h15,h14,h18,h17,h16,h19,h20⟩
  exact ⟨h1,h2,h3,h4,h5,h6,h7,h8,h9,h10,h11,h12,h13,h14,h15,h16,h17,h18,h19,h20⟩
def qYy:List AV:=[.d (.str []),.d (.str []),.d (.str []),.d (.str []),.d (.str []),.d (.str []),.d (.int .i64 0),.sl 1 [] .full,.d (.bool false),.sl 5 [] .full,.d (.int .i64 0),.sl 1 [] .full]
theorem ordCZ_find:T.find 28=some ⟨.struct [(0,1,false),(1,1,false),(2,1,false),(3,1,false),(4,1,false),(5,1,false),(6,1,false),(7,1,false),(8,1,false),(9,2,true),(11,1,false)],12,192,qYy⟩:=rfl
theorem sameC_spec (x y:Akt) (P:List (List Dat)) (h1:x.prots.length≤1000000) (h2:x.faults.length≤1000000) (h3:x.cuts.length≤1000000) (h4:x.flips.length≤1000000) :
  Spec Tryz.prog 30 [.agg (qBn x P),.agg (qBn y [])] [] (fun r h'=>r=.d (.bool (qRy x y P))∧h'=[]):=by
 have e1:=qHl x.prots y.prots h1
 have e2:=qHl x.faults y.faults h2
 have e3:=qUl P
 have e4:=qHl x.cuts y.cuts h3
 have e5:=qRe x.flips y.flips h4
 clear h1 h2 h3 h4
 obtain ⟨k,a,b,n,st,tx,nu,su,gi,na,bi,se,ex,pr,ba,pt,td,fa,cu,fl⟩:=x
 obtain ⟨k',a',b',n',st',tx',nu',su',gi',na',bi',se',ex',pr',ba',pt',td',fa',cu',fl'⟩:=y
 unfold qRy qBn
 simp only at *
 generalize decide (pr=pr')=d1 at e1 ⊢
 generalize decide (fa=fa')=d2 at e2 ⊢
 generalize decide (P=[])=d3 at e3 ⊢
 generalize decide (cu=cu')=d4 at e4 ⊢
 generalize decide (fl=fl')=d5 at e5 ⊢
 generalize qAl pr=a1 at e1 ⊢
 generalize qAl pr'=a2 at e1 ⊢
 generalize qAl fa=a3 at e2 ⊢
 generalize qAl fa'=a4 at e2 ⊢
 generalize qAl cu=a5 at e4 ⊢
 generalize qAl cu'=a6 at e4 ⊢
 generalize qAr fl=a7 at e5 ⊢
 generalize qAr fl'=a8 at e5 ⊢
 refine qAb hT Tryz.func30 rfl rfl rfl rfl ?_;intro E hE
 refine qAq (qAq ?_)
 refine qAf (qAc ?_)
 refine wws ?_
 refine qAf ?_
 refine qBu (fun i=>bif Nat.beq i 1 then [2] else bif Nat.beq i 3 then [3] else bif Nat.beq i 4||Nat.beq i 6 then [0] else bif Nat.beq i 5||Nat.beq i 7 then [1] else []) (fun i=>bif Nat.beq i 4||Nat.beq i 6 then [0] else bif Nat.beq i 5||Nat.beq i 7 then [1] else []) mixed (by kernel_rfl) ?_
 refine wwg ?_
 refine qAm (os:=[.row qYy]) (v:=.ptr 0 0) (fun k hk hr=>allocAt_ok (i0:=0) hT rfl ordCZ_find ((hr 0 (List.mem_singleton.2 rfl)).trans rfl)) rfl ?_
 refine qAm (os:=[.row qYy]) (v:=.ptr 1 0) (fun k hk hr=>allocAt_ok (i0:=1) hT rfl ordCZ_find ((hr 1 (List.mem_singleton.2 rfl)).trans rfl)) rfl ?_
 refine wwg ?_
 refine ww ?_
 refine wwgc e1 ?_
 refine ww ?_
 refine wwgc e2 ?_
 refine ww ?_
 refine wwgc e3 ?_
 refine ww ?_
 refine wwgc e4 ?_
 refine ww ?_
 refine wwgc e5 ?_
 refine ww ?_
 exact wwr
def qVw:Fld→Prop
 | .num n=>qAz n
 | .txt s=>s.length≤12000
 | .rst s=>s.length≤12000
 | .flg _=>True
 | .nums l=>l.length≤3200∧∀ n,n∈l→qAz n
 | .flps l=>l.length≤3200∧∀ f,f∈l→qAz f.ap∧qAz f.byt∧qAz f.bit
theorem vIf {x:Akt} {P:List (List Dat)} (hx:ActLen x P) (hs:qHp x):∀ f,f∈qAt x→qVw f:=by
 obtain ⟨s1,s2,s3,s4,s5,s6,s7,s8⟩:=hs
 have h1:=hx.nums
 have h2:=hx.txts
 intro f hf
 unfold qAt at hf
 repeat' split at hf
 all_goals simp only [List.mem_cons,List.not_mem_nil,or_false] at hf
 ·subst hf;exact s3
 ·rcases hf with rfl | rfl <;> (unfold qVw;simp only;omega)
 ·subst hf;exact s1
 ·rcases hf with rfl | rfl | rfl | rfl | rfl | rfl | rfl | rfl | rfl | rfl | rfl
  ·exact s1
  ·unfold qVw;simp only;omega
  ·unfold qVw;simp only;omega
  ·unfold qVw;simp only;omega
  ·unfold qVw;simp only;omega
  ·unfold qVw;simp only;omega
  ·unfold qVw;simp only;omega
  ·exact s4
  ·trivial
  ·exact ⟨by omega,s5⟩
  ·exact ⟨by omega,s6⟩
 ·rcases hf with rfl | rfl | rfl
  ·exact s1
  ·exact s2
  ·exact s3
 ·rcases hf with rfl | rfl
  ·exact s1
  ·unfold qVw;simp only;omega
 ·rcases hf with rfl | rfl | rfl | rfl
  ·exact s1
  ·exact s2
  ·exact ⟨by omega,s7⟩
  ·exact ⟨by omega,s8⟩
 ·rcases hf with rfl | rfl <;> (unfold qVw;simp only;omega)
 ·rcases hf with rfl | rfl
  ·exact s1
  ·exact s2
theorem qBe {n:Int} (h:qAz n) : -9223372036854775808≤n∧n≤9223372036854775807:=by unfold qAz at h;omega
def wrB:Shp→Nat
 | .num=>21
 | .txt=>12001
 | .rst=>12000
 | .flg=>3
 | .nums=>70400
 | .flps=>211200
theorem wrF_len {f:Fld} (h:qVw f):(wrF f).length≤wrB (qDr f):=by
 cases f with
 | num n=>show (wrF (.num n)).length≤21;have:=qAy n (qBe h);simp only [wrF];omega
 | txt s =>
  show (wrF (.txt s)).length≤12001
  have h:s.length≤12000:=h
  simp only [wrF,qUy]
  split
  ·simp
  ·rw [List.length_map];omega
 | rst s=>show (wrF (.rst s)).length≤12000;have h:s.length≤12000:=h;simp only [wrF];omega
 | flg b=>show (wrF (.flg b)).length≤3;cases b <;> simp [wrF]
 | nums l =>
  show (wrF (.nums l)).length≤70400
  obtain ⟨h1,h2⟩:=h
  have:=qEw 44 21 (l.map Lib.itoa) (fun w hw=>by
   obtain ⟨n,h3,rfl⟩:=List.mem_map.1 hw
   exact qAy n (qBe (h2 n h3)))
  rw [List.length_map] at this
  simp only [wrF,qEm]
  split
  ·simp
  ·omega
 | flps l =>
  show (wrF (.flps l)).length≤211200
  obtain ⟨h1,h2⟩:=h
  have:=qEw 44 65 (l.map qBz) (fun w hw=>by
   obtain ⟨f,h1,rfl⟩:=List.mem_map.1 hw
   obtain ⟨h2,h3,h4⟩:=h2 f h1
   have a1:=qAy f.ap (qBe h2)
   have a2:=qAy f.byt (qBe h3)
   have a3:=qAy f.bit (qBe h4)
   unfold qBz
   simp only [List.length_append,List.length_cons]
   omega)
  rw [List.length_map] at this
  simp only [wrF,qEm]
  split
  ·simp
  ·omega
theorem qCz {k:Int}:(qAx k).length≤10:=by
 unfold qAx
 repeat' split
 all_goals decide
theorem qNb (x:Akt):(qAt x).length=(qBg x.kind).length∧(qAt x).length≤11:=by
 unfold qAt qBg
 repeat' split
 all_goals exact ⟨rfl,by simp⟩
theorem qZl (c:UInt8):∀ l:List (List UInt8),(joi c l).length≤(l.map fun w=>w.length+1).sum
 | []=>by simp [joi]
 | [w]=>by simp [joi]
 | w::v::l=>by
  have ih:=qZl c (v::l)
  rw [qDn c w (by simp),List.map_cons,List.sum_cons,List.length_append,List.length_cons]
  omega
theorem vDr:∀ fs:List Fld,(∀ f,f∈fs→qVw f)→((fs.map wrF).map fun w=>w.length+1).sum≤((fs.map qDr).map fun s=>wrB s+1).sum
 | [],_=>Nat.le_refl _
 | f::fs,h=>by
  have ih:=vDr fs fun g hg=>h g (List.mem_cons_of_mem _ hg)
  have h1:=wrF_len (h f List.mem_cons_self)
  simp only [List.map_cons,List.sum_cons]
  omega
theorem qWq (k:Int):((qBy k).map fun s=>wrB s+1).sum≤400000:=by
 unfold qBy
 repeat' split
 all_goals decide
theorem vCf {x:Akt} (h:∀ f,f∈qAt x→qVw f):(joi 32 (qBw x)).length≤1000000:=by
 have h1:=qZl 32 (qBw x)
 have h2:=vDr (qAt x) h
 have h3:=qWq x.kind
 have h4:=@qCz x.kind
 rw [qCj] at h2
 unfold qBw at h1 ⊢
 rw [List.map_cons,List.sum_cons] at h1
 omega
def FO (C:List AV):List (Shp×Nat)→List Fld→Prop
 | [],[]=>True
 | (s,o)::l,f::fs=>(s=qDr f∧C[o]?=some (qDv f))∧FO C l fs
 | _,_=>False
theorem vIq {C:List AV}:∀ {l:List (Shp×Nat)} {fs:List Fld},FO C l fs→∀ {i:Nat} (h:i < fs.length),∃ o,l[i]?=some (qDr fs[i],o)∧C[o]?=some (qDv fs[i])
 | (s,o)::l,f::fs,h,0,_=>⟨o,by rw [h.1.1];rfl,h.1.2⟩
 | (s,o)::l,f::fs,h,i+1,hi=>vIq h.2 (i:=i) (by simpa using hi)
 | [],[],_,i,hi=>by simp at hi
theorem vIr (x:Akt) (P:List (List Dat)) (h:1≤x.kind∧x.kind≤11):FO (qBn x P) (qBg x.kind) (qAt x):=by
 obtain ⟨k,a,b,n,st,tx,nu,su,gi,na,bi,se,ex,pr,ba,pt,td,fa,cu,fl⟩:=x
 simp only at h
 rcases (by omega:k=1∨k=2∨k=3∨k=4∨k=5∨k=6∨k=7∨k=8∨k=9∨k=10∨k=11) with rfl | rfl | rfl | rfl | rfl | rfl | rfl | rfl | rfl | rfl | rfl
 ·exact ⟨⟨rfl,rfl⟩,trivial⟩
 ·exact ⟨⟨rfl,rfl⟩,⟨rfl,rfl⟩,trivial⟩
 ·exact ⟨⟨rfl,rfl⟩,trivial⟩
 ·exact ⟨⟨rfl,rfl⟩,⟨rfl,rfl⟩,⟨rfl,rfl⟩,⟨rfl,rfl⟩,⟨rfl,rfl⟩,⟨rfl,rfl⟩,⟨rfl,rfl⟩,⟨rfl,rfl⟩,⟨rfl,rfl⟩,⟨rfl,rfl⟩,⟨rfl,rfl⟩,trivial⟩
 ·exact ⟨⟨rfl,rfl⟩,⟨rfl,rfl⟩,trivial⟩
 ·exact ⟨⟨rfl,rfl⟩,⟨rfl,rfl⟩,trivial⟩
 ·exact ⟨⟨rfl,rfl⟩,⟨rfl,rfl⟩,⟨rfl,rfl⟩,trivial⟩
 ·exact ⟨⟨rfl,rfl⟩,⟨rfl,rfl⟩,trivial⟩
 ·exact ⟨⟨rfl,rfl⟩,⟨rfl,rfl⟩,trivial⟩
 ·exact ⟨⟨rfl,rfl⟩,⟨rfl,rfl⟩,⟨rfl,rfl⟩,⟨rfl,rfl⟩,trivial⟩
 ·exact ⟨⟨rfl,rfl⟩,⟨rfl,rfl⟩,trivial⟩
theorem writeC_spec (f:Fld) (hf:qVw f) (C:List AV) (off:Nat) (hC:C[off]?=some (qDv f)) (hlow:qBl 1 C=true) :
  Spec Tryz.prog 28 [.ifa (tyS (qDr f)) (.ptr 0 off)] [.row C] (fun r h'=>r=.d (.str (wrF f))∧h'=[.row C]):=by
 cases f with
 | num n=>exact writeNum_spec C off n (qBe hf) hC hlow
 | txt s=>exact writeTxt_spec C off s (by have:s.length≤12000:=hf;omega) hC hlow
 | rst s=>exact writeRst_spec C off s hC hlow
 | flg b=>exact writeFlg_spec C off b hC hlow
 | nums l=>exact writeNums_spec C off l (by have:=hf.1;omega) (fun n hn=>qBe (hf.2 n hn)) hC hlow
 | flps l=>exact writeFlps_spec C off l (by have:=hf.1;omega) (fun f h=>⟨qBe (hf.2 f h).1,qBe (hf.2 f h).2.1,qBe (hf.2 f h).2.2⟩) hC hlow
theorem decD_small {u:Nat} (h:u < 10):Lib.decDigits u=[UInt8.ofNat (48+u)]:=by rw [Lib.decDigits,dif_pos h]
theorem decD_big {u:Nat} (h:¬ u < 10):Lib.decDigits u=Lib.decDigits (u / 10)++[UInt8.ofNat (48+u % 10)]:=by rw [Lib.decDigits,dif_neg h]
theorem decD_len:∀ (m u:Nat),u < 10 ^ m→(Lib.decDigits u).length≤m+1
 | 0,u,h=>by rw [decD_small (by simp at h;omega)];simp
 | m+1,u,h=>by
  by_cases h10:u < 10
  ·rw [decD_small h10];simp
  ·rw [decD_big h10,List.length_append]
   have:=decD_len m (u / 10) (by rw [Nat.pow_succ] at h;omega)
   simp;omega
theorem smallR_spec (n:Int):Spec Tryz.prog 69 [.I n] [] (fun r h'=>r=.d (.bool (smB n))∧h'=[]):=by
 unfold smB
 refine qAb hT Tryz.func69 rfl rfl rfl rfl ?_;intro E hE
 refine ww ?_
 exact wwr
theorem qIn (N:Nat) (hN:N < 10 ^ 18):Spec Tryz.prog 70 [.I (N:Int)] [] (fun r h'=>r=.d (.str (Lib.decDigits N))∧h'=[]):=by
 have hlen:=decD_len 18 N hN
 refine qAb hT Tryz.func70 rfl rfl rfl rfl ?_;intro E hE
 refine ww ?_
 refine qAa rfl (fun c1=>?_) (fun c1=>?_)
 ·exact absurd c1 (by simp)
 ·refine ww ?_
  refine qAn (ι:=Nat×List UInt8) (fun p=>[(0,.I (p.1:Int)),(3,.d (.str p.2))]) (fun _=>[]) (fun p=>p.1≤N∧Lib.decDigits N=Lib.decDigits p.1++p.2) (fun p=>p.1) (N,[]) ⟨Nat.le_refl _,by simp⟩ yf (HLe.refl _) ?_
  rintro ⟨n,s⟩ ⟨hn,hs⟩
  simp only at hn hs ⊢
  have hsl:s.length≤19:=by rw [hs,List.length_append] at hlen;omega
  have q2:(n:Int).tmod 10=((n % 10:Nat):Int):=rfl
  have hb:IntKind.u8.wrap (IntKind.i64.wrap (48+(n:Int).tmod 10))=((UInt8.ofNat (48+n % 10)).toNat:Int):=by rw [q2,qAh (by omega),wrapu8 (by omega)];simp;omega
  have q1:IntKind.i64.wrap ((n:Int).tdiv 10)=((n / 10:Nat):Int):=by rw [show (n:Int).tdiv 10=((n / 10:Nat):Int) from rfl,qAh (by omega)]
  refine ww ?_
  have hbl:(qTc [[Dat.int .u8 (IntKind.u8.wrap (IntKind.i64.wrap (48+(n:Int).tmod 10)))]]).length=1:=rfl
  refine qOt hT rfl rfl (fun e he=>⟨IntKind.u8.wrap (IntKind.i64.wrap (48+(n:Int).tmod 10)),List.mem_singleton.1 he⟩) ?_
  refine ww ?_
  refine qAa rfl (fun c2=>?_) (fun c2=>?_)
  ·have hn10:n < 10:=by rw [q1] at c2;simp at c2;omega
   rw [decD_small hn10] at hs
   refine ww ?_
   refine rq ⟨rfl,rfl⟩ rfl (lz ?_)
   rw [hs]
   show [UInt8.ofNat (IntKind.u8.wrap (IntKind.i64.wrap (48+(n:Int).tmod 10))).toNat]++s=_
   rw [hb,Int.toNat_natCast,UInt8.ofNat_toNat,Nat.mod_eq_of_lt hn10]
  ·have hn10:¬ n < 10:=by rw [q1] at c2;simp at c2;omega
   rw [decD_big hn10] at hs
   refine ww ?_
   refine ⟨(n / 10,UInt8.ofNat (48+n % 10)::s),⟨by simp only;omega,by simp only;rw [hs];simp⟩,by simp only;omega,⟨.int q1,lz ?_,trivial⟩,HLe.refl _⟩
   show [UInt8.ofNat (IntKind.u8.wrap (IntKind.i64.wrap (48+(n:Int).tmod 10))).toNat]++s=_
   rw [hb,Int.toNat_natCast,UInt8.ofNat_toNat];rfl
theorem qOo (N:Nat) (h0:0 < N) (hN:N < 10 ^ 18):Spec Tryz.prog 70 [.I (-(N:Int))] [] (fun r h'=>r=.d (.str (45::Lib.decDigits N))∧h'=[]):=by
 have h:=qIn N hN
 have hlen:=decD_len 18 N hN
 rw [show (N:Int)=IntKind.i64.wrap (0 - -(N:Int)) by rw [qAh (by omega)];omega] at h
 generalize Lib.decDigits N=dd at h hlen
 refine qAb hT Tryz.func70 rfl rfl rfl rfl ?_;intro E hE
 refine ww ?_
 refine qAa rfl (fun c1=>?_) (fun c1=>?_)
 ·refine ww ?_
  refine wwc h ?_
  refine ww ?_
  exact wwr
 ·exact absurd c1 (by simp;omega)
theorem qRf (n:Int) (hn : -1000000000000000000 < n∧n < 1000000000000000000):Spec Tryz.prog 70 [.I n] [] (fun r h'=>r=.d (.str (Lib.itoa n))∧h'=[]):=by
 unfold Lib.itoa
 by_cases h0:n < 0
 ·have h:=qOo n.natAbs (by omega) (by omega)
  rw [show -((n.natAbs:Nat):Int)=n by omega] at h
  rw [if_pos h0]
  exact h
 ·have h:=qIn n.toNat (by omega)
  rw [Int.toNat_of_nonneg (by omega)] at h
  rw [if_neg h0]
  exact h
theorem qDh (n:Int) (hn:qAz n):Spec Tryz.prog 70 [.I n] [] (fun r h'=>r=.d (.str (Lib.itoa n))∧h'=[]):=qRf n (by unfold qAz at hn;omega)
theorem cutL_one {s:List UInt8} {i:Nat} (h:i < s.length):qRp s (i:Int) ((i+1:Nat):Int)=[s[i]]:=by
 unfold qRp
 rw [Int.toNat_natCast,Int.toNat_natCast,show i+1-i=1 by omega,List.drop_eq_getElem_cons h]
 rfl
def wo (s:List UInt8):List UInt8:=s.map fun c=>if c=32 then 95 else c
theorem take_succ' (s:List UInt8) {i:Nat} (h:i < s.length):s.take (i+1)=s.take i++[s[i]]:=List.take_succ_eq_append_getElem h
theorem wordR_spec (s:List UInt8) (hs:s.length≤1000000):Spec Tryz.prog 71 [.d (.str s)] [] (fun r h'=>r=.tup [.d (.str (qRn s).1),.d (.bool (qRn s).2)]∧h'=[]):=by
 unfold qRn
 refine qAb hT Tryz.func71 rfl rfl rfl rfl ?_;intro E hE
 refine ww ?_
 refine qAa rfl (fun c1=>?_) (fun c1=>?_)
 ·have c1':s=[]:=by simpa using c1
  rw [if_pos c1']
  refine ww ?_
  exact wwr
 ·have c1':¬ s=[]:=by simpa using c1
  rw [if_neg c1']
  refine ww ?_
  refine qAn (ι:=Nat) (fun i=>[(0,.d (.str s)),(4,.d (.str (wo (s.take i)))),(5,.I (i:Int))]) (fun _=>[]) (fun i=>i≤s.length∧wcB (s.take i)=true) (fun i=>s.length-i) 0 ⟨Nat.zero_le _,rfl⟩ yf (HLe.refl _) ?_
  rintro i ⟨hi,hw⟩
  have hat:=strAt_n s i
  have hb:0≤bI (s.getD i 0)∧bI (s.getD i 0) < 256:=by have:=(s.getD i 0).toNat_lt;unfold bI;omega
  have hol:(wo (s.take i)).length≤1000000:=by unfold wo;rw [List.length_map,List.length_take];omega
  refine ww ?_
  refine qAa rfl (fun c2=>?_) (fun c2=>?_)
  ·have hi':i < s.length:=by simp at c2;omega
   have hwr:IntKind.i64.wrap ((i:Int)+1)=((i+1:Nat):Int):=by rw [qAh (by omega)];simp
   have hg:s.getD i 0=s[i]:=by simp [hi']
   have htk:=take_succ' s hi'
   have hwo:wo (s.take (i+1))=wo (s.take i)++[if s[i]=32 then 95 else s[i]]:=by rw [htk];unfold wo;rw [List.map_append];rfl
   have hwc:wcB (s.take (i+1))=(decide (32≤s[i].toNat)&&decide (s[i].toNat≤126)&&(s[i] != 95)):=by
    rw [htk];unfold wcB at hw ⊢;rw [List.all_append,hw];simp
   have hgs:[s[i]]=[s.getD i 0]:=by rw [hg]
   have hcl:(qRp s (i:Int) (IntKind.i64.wrap ((i:Int)+1))).length≤1:=by rw [hwr,cutL_one hi'];simp
   have hall:wcB s=true→wcB (s.take (i+1))=true:=fun h=>(wcB_iff _).2 fun c hc=>(wcB_iff _).1 h c (List.mem_of_mem_take hc)
   rw [← hg] at hwo hwc
   clear htk
   generalize s.getD i 0=c at *
   refine ww ?_
   rw [hat]
   refine ww ?_
   refine qAa rfl (fun c3=>?_) (fun c3=>?_)
   ·have hc:c=32:=by unfold bI at c3;simp at c3;exact UInt8.toNat_inj.1 (by rw [show (32:UInt8).toNat=32 from rfl];omega)
    subst hc
    refine ww ?_
    exact ⟨i+1,⟨hi',by rw [hwc];rfl⟩,by omega,⟨.refl _,lz (by rw [hwo];rfl),.int hwr,trivial⟩,HLe.refl _⟩
   ·have hc:¬ c=32:=fun hh=>by subst hh;unfold bI at c3;simp at c3
    refine ww ?_
    by_cases hok:(decide (32≤c.toNat)&&decide (c.toNat≤126)&&(c != 95))=true
    ·refine qAa rfl (fun q=>?_) (fun q=>?_)
     ·exfalso
      simp only [Bool.and_eq_true,decide_eq_true_eq,bne_iff_ne] at hok
      have h95:c.toNat≠95:=fun hh=>hok.2 (UInt8.toNat_inj.1 hh)
      have h32:c.toNat≠32:=fun hh=>hc (UInt8.toNat_inj.1 hh)
      rw [hat] at q
      unfold bI at q
      simp at q
      omega
     refine ww ?_
     refine ⟨i+1,⟨hi',by rw [hwc];exact hok⟩,by omega,⟨.refl _,lz ?_,.int hwr,trivial⟩,HLe.refl _⟩
     rw [hwo,if_neg hc]
     show _++qRp s (i:Int) (IntKind.i64.wrap ((i:Int)+1))=_
     rw [hwr,cutL_one hi',hgs]
    ·refine qAa rfl (fun q=>?_) (fun q=>?_)
     ·have hno:¬ wcB s=true:=fun h=>hok (by rw [← hwc];exact hall h)
      rw [if_neg hno]
      refine ww ?_
      exact wwr
     ·exfalso
      refine hok ?_
      simp only [Bool.and_eq_true,decide_eq_true_eq,bne_iff_ne]
      rw [hat] at q
      unfold bI at q
      simp at q
      exact ⟨⟨by omega,by omega⟩,fun hh=>by subst hh;simp at q⟩
  ·have hi':i=s.length:=by simp at c2;omega
   subst hi'
   rw [List.take_length] at hw
   rw [List.take_length,if_pos hw]
   have hwb:wo s=qUy s:=by unfold qUy;rw [if_neg c1'];rfl
   rw [hwb]
   refine ww ?_
   exact wwr
theorem qVq (c:UInt8) (w:List UInt8):∀ l:List (List UInt8),joi c (l++[w])=if l=[] then w else joi c l++c::w
 | []=>rfl
 | [v]=>rfl
 | v::u::l=>by
  have ih:=qVq c w (u::l)
  rw [if_neg (by simp)] at ih ⊢
  show v++c::joi c ((u::l)++[w])=(v++c::joi c (u::l))++c::w
  rw [ih];simp
theorem vDx (c:UInt8):∀ l:List (List UInt8),(∀ w,w∈l→w≠[])→joi c l=[]→l=[]
 | [],_,_=>rfl
 | [v],h,hh=>absurd hh (h v List.mem_cons_self)
 | v::u::l,h,hh=>by
  have:v++c::joi c (u::l)=[]:=hh
  simp at this
def qOw (c:UInt8) (i:Nat) (s:List UInt8):List UInt8:=if i=0 then s else s++[c]
theorem qSq {α:Type} (c:UInt8) (f:α→List UInt8) (l:List α) {i:Nat} (h:i < l.length):joi c ((l.take (i+1)).map f)=qOw c i (joi c ((l.take i).map f))++f l[i]:=by
 rw [List.take_succ_eq_append_getElem h,List.map_append,show List.map f [l[i]]=[f l[i]] from rfl,qVq]
 unfold qOw
 by_cases h0:i=0
 ·subst h0;rw [List.take_zero,if_pos rfl];rfl
 ·have:(l.take i).map f≠[]:=by
   intro hh
   have:=congrArg List.length hh
   simp only [List.length_map,List.length_take,List.length_nil] at this
   omega
  rw [if_neg this,if_neg h0];simp
theorem qNh {α:Type} (p:α→Bool) (l:List α) {i:Nat} (h:i < l.length) (hp:(l.take i).all p=true) (h2:p l[i]=true):(l.take (i+1)).all p=true:=by
 rw [List.take_succ_eq_append_getElem h,List.all_append,hp,List.all_cons,h2];rfl
theorem qSi {α:Type} (p:α→Bool) (l:List α) {i:Nat} (h:i < l.length) (h2:p l[i]=false):l.all p=false:=by
 rw [List.all_eq_false]
 exact ⟨l[i],List.getElem_mem h,by rw [h2];simp⟩
theorem listR_spec (l:List Int) (hl:l.length≤4000):Spec Tryz.prog 72 [.d (.sl 1 (qAl l))] [] (fun r h'=>r=.tup [.d (.str (qNr l).1),.d (.bool (qNr l).2)]∧h'=[]):=by
 have hel:=encI_length l
 refine qAb hT Tryz.func72 rfl rfl rfl rfl ?_;intro E hE
 refine ww ?_
 refine qAn (ι:=Nat) (fun i=>[(0,.d (.sl 1 (qAl l))),(4,.d (.str (joi 44 ((l.take i).map Lib.itoa)))),(5,.I (i:Int))]) (fun _=>[]) (fun i=>i≤l.length∧(l.take i).all smB=true) (fun i=>l.length-i) 0 ⟨Nat.zero_le _,rfl⟩ yf (HLe.refl _) ?_
 rintro i ⟨hi,hsm⟩
 have hjl:=qEw 44 21 ((l.take i).map Lib.itoa) (fun w hw=>by
  obtain ⟨n,hn,rfl⟩:=List.mem_map.1 hw
  exact qAy n (qBe ((smB_iff n).1 (List.all_eq_true.1 hsm n hn))))
 rw [List.length_map,List.length_take] at hjl
 have hjl:(joi 44 ((l.take i).map Lib.itoa)).length≤90000:=by omega
 refine ww ?_
 refine qAa rfl (fun c1=>?_) (fun c1=>?_)
 ·have hi':i < l.length:=by rw [hel] at c1;simp at c1;omega
  have hat:=encI_at hi'
  have hss:=smallR_spec l[i]
  have hta:=qNh smB l hi' hsm
  have hna:=qSi smB l hi'
  have hjp:=qSq 44 Lib.itoa l hi'
  have hD:=fun h:smB l[i]=true=>qDh l[i] ((smB_iff _).1 h)
  have hdl:=fun h:smB l[i]=true=>qAy l[i] (qBe ((smB_iff _).1 h))
  generalize joi 44 ((l.take i).map Lib.itoa)=s at hjl hjp ⊢
  have hpl:(qOw 44 i s).length≤90001:=by unfold qOw;split <;> (try simp) <;> omega
  have hpe:∀ h0:i=0,qOw 44 i s=s:=fun h0=>if_pos h0
  have hpn:∀ h0:¬ i=0,qOw 44 i s=s++[44]:=fun h0=>if_neg h0
  generalize qOw 44 i s=p at hjp hpl hpe hpn
  generalize l[i]=n at hat hss hta hna hjp hD hdl
  refine ww ?_
  refine qHn (Q:=fun e τ h=>e=.normal∧SubL τ [(0,.d (.sl 1 (qAl l))),(4,.d (.str p)),(5,.I (i:Int))]∧HLe h []) ?_ ?_
  ·refine qAa rfl (fun c2=>?_) (fun c2=>?_)
   ·have h0:¬ i=0:=by simp at c2;omega
    refine ww ?_
    exact ⟨rfl,⟨.refl _,lz (hpn h0).symm,.refl _,trivial⟩,HLe.refl _⟩
   ·have h0:i=0:=by simp at c2;omega
    refine ww ?_
    exact ⟨rfl,⟨.refl _,lz (hpe h0).symm,.refl _,trivial⟩,HLe.refl _⟩
  rintro e τ h ⟨rfl,hsub,hle⟩
  refine qAi hsub hle ?_
  clear hsub hle
  refine ww ?_
  refine wwi hat ?_
  refine ww ?_
  refine wwc hss ?_
  refine ww ?_
  cases hb:smB n with
  | false =>
   refine qAa rfl (fun q=>?_) (fun q=>absurd q (by decide))
   rw [show qNr l=([],false) by unfold qNr;rw [if_neg (by rw [hna hb];simp)]]
   refine ww ?_
   exact wwr
  | true =>
   refine qAa rfl (fun q=>absurd q (by decide)) (fun q=>?_)
   have hD:=hD hb
   have hdl:=hdl hb
   have hta:=hta hb
   generalize Lib.itoa n=d at hD hdl hjp
   refine ww ?_
   refine wwi hat ?_
   refine ww ?_
   refine wwc hD ?_
   refine ww ?_
   exact ⟨i+1,⟨hi',hta⟩,by omega,⟨.refl _,lz hjp.symm,.int (by rw [qAh (by omega)];omega),trivial⟩,HLe.refl _⟩
 ·have hi':i=l.length:=by rw [hel] at c1;simp at c1;omega
  subst hi'
  rw [List.take_length] at *
  rw [show qNr l=(qEm (l.map Lib.itoa),true) by unfold qNr;rw [if_pos hsm]]
  have hne:=vDx 44 (l.map Lib.itoa) (fun w hw=>by
   obtain ⟨n,hn,rfl⟩:=List.mem_map.1 hw
   exact qSr n)
  unfold qEm
  by_cases h0:l.map Lib.itoa=[]
  ·rw [if_pos h0,h0]
   refine ww ?_
   refine qAa rfl (fun q=>?_) (fun q=>absurd q (by decide))
   refine ww ?_
   exact wwr
  ·rw [if_neg h0]
   refine ww ?_
   refine qAa rfl (fun q=>absurd (hne (by simpa using q)) h0) (fun q=>?_)
   refine ww ?_
   exact wwr
theorem flipsR_spec (l:List Flp) (hl:l.length≤4000):Spec Tryz.prog 41 [.d (.sl 3 (qAr l))] [] (fun r h'=>r=.tup [.d (.str (qOx l).1),.d (.bool (qOx l).2)]∧h'=[]):=by
 have hel:=encFp_length l
 refine qAb hT Tryz.func41 rfl rfl rfl rfl ?_;intro E hE
 refine ww ?_
 refine qAn (ι:=Nat) (fun i=>[(0,.d (.sl 3 (qAr l))),(4,.d (.str (joi 44 ((l.take i).map qBz)))),(5,.I (i:Int))]) (fun _=>[]) (fun i=>i≤l.length∧(l.take i).all flB=true) (fun i=>l.length-i) 0 ⟨Nat.zero_le _,rfl⟩ yf (HLe.refl _) ?_
 rintro i ⟨hi,hsm⟩
 have hfl:∀ f:Flp,flB f=true→(qBz f).length≤65:=fun f hf=>by
  obtain ⟨h2,h3,h4⟩:=(flB_iff f).1 hf
  have a1:=qAy f.ap (qBe h2)
  have a2:=qAy f.byt (qBe h3)
  have a3:=qAy f.bit (qBe h4)
  unfold qBz
  simp only [List.length_append,List.length_cons]
  omega
 have hjl:=qEw 44 65 ((l.take i).map qBz) (fun w hw=>by
  obtain ⟨n,hn,rfl⟩:=List.mem_map.1 hw
  exact hfl n (List.all_eq_true.1 hsm n hn))
 rw [List.length_map,List.length_take] at hjl
 have hjl:(joi 44 ((l.take i).map qBz)).length≤270000:=by omega
 refine ww ?_
 refine qAa rfl (fun c1=>?_) (fun c1=>?_)
 ·have hi':i < l.length:=by rw [hel] at c1;simp at c1;omega
  have hat:=encFp_at hi'
  have hss1:=smallR_spec l[i].ap
  have hss2:=smallR_spec l[i].byt
  have hss3:=smallR_spec l[i].bit
  have hta:=qNh flB l hi' hsm
  have hna:=qSi flB l hi'
  have hjp:=qSq 44 qBz l hi'
  have hD1:=fun h:smB l[i].ap=true=>qDh l[i].ap ((smB_iff _).1 h)
  have hD2:=fun h:smB l[i].byt=true=>qDh l[i].byt ((smB_iff _).1 h)
  have hD3:=fun h:smB l[i].bit=true=>qDh l[i].bit ((smB_iff _).1 h)
  have hdl1:=fun h:smB l[i].ap=true=>qAy l[i].ap (qBe ((smB_iff _).1 h))
  have hdl2:=fun h:smB l[i].byt=true=>qAy l[i].byt (qBe ((smB_iff _).1 h))
  have hdl3:=fun h:smB l[i].bit=true=>qAy l[i].bit (qBe ((smB_iff _).1 h))
  have hfb:qBz l[i]=((((Lib.itoa l[i].ap++[58])++Lib.itoa l[i].byt)++[58])++Lib.itoa l[i].bit):=by unfold qBz;simp
  have hb0:flB l[i]=(smB l[i].ap&&smB l[i].byt&&smB l[i].bit):=rfl
  rw [hfb] at hjp
  rw [hb0] at hta hna
  clear hfb hb0 hfl
  generalize joi 44 ((l.take i).map qBz)=s at hjl hjp ⊢
  have hpl:(qOw 44 i s).length≤270001:=by unfold qOw;split <;> (try simp) <;> omega
  have hpe:∀ h0:i=0,qOw 44 i s=s:=fun h0=>if_pos h0
  have hpn:∀ h0:¬ i=0,qOw 44 i s=s++[44]:=fun h0=>if_neg h0
  generalize qOw 44 i s=p at hjp hpl hpe hpn
  generalize l[i]=f at *
  obtain ⟨n1,n2,n3⟩:=f
  simp only at *
  refine ww ?_
  refine qHn (Q:=fun e τ h=>e=.normal∧SubL τ [(0,.d (.sl 3 (qAr l))),(4,.d (.str p)),(5,.I (i:Int))]∧HLe h []) ?_ ?_
  ·refine qAa rfl (fun c2=>?_) (fun c2=>?_)
   ·have h0:¬ i=0:=by simp at c2;omega
    refine ww ?_
    exact ⟨rfl,⟨.refl _,lz (hpn h0).symm,.refl _,trivial⟩,HLe.refl _⟩
   ·have h0:i=0:=by simp at c2;omega
    refine ww ?_
    exact ⟨rfl,⟨.refl _,lz (hpe h0).symm,.refl _,trivial⟩,HLe.refl _⟩
  rintro e τ h ⟨rfl,hsub,hle⟩
  refine qAi hsub hle ?_
  clear hsub hle
  refine ww ?_
  refine wwi hat ?_
  refine ww ?_
  refine wwc hss1 ?_
  refine ww ?_
  refine wwgi hat ?_
  refine ww ?_
  refine wwgc hss2 ?_
  refine ww ?_
  refine wwgi hat ?_
  refine ww ?_
  refine wwgc hss3 ?_
  refine ww ?_
  by_cases hb:(smB n1&&smB n2&&smB n3)=true
  case neg =>
   refine qAa rfl (fun q=>?_) (fun q=>?_)
   ·rw [show qOx l=([],false) by unfold qOx;rw [if_neg (by rw [hna (by simpa using hb)];simp)]]
    refine ww ?_
    exact wwr
   ·exact absurd (by simpa [and_assoc] using q) hb
  have hta:=hta hb
  simp only [Bool.and_eq_true] at hb
  obtain ⟨⟨hb1,hb2⟩,hb3⟩:=hb
  refine qAa rfl (fun q=>absurd q (by simp [hb1,hb2,hb3])) (fun q=>?_)
  have hD1:=hD1 hb1
  have hD2:=hD2 hb2
  have hD3:=hD3 hb3
  have hdl1:=hdl1 hb1
  have hdl2:=hdl2 hb2
  have hdl3:=hdl3 hb3
  generalize Lib.itoa n1=d1 at hD1 hdl1 hjp
  generalize Lib.itoa n2=d2 at hD2 hdl2 hjp
  generalize Lib.itoa n3=d3 at hD3 hdl3 hjp
  have hjp:joi 44 ((l.take (i+1)).map qBz)=((((p++d1)++[58])++d2)++[58])++d3:=by rw [hjp];simp
  clear hss1 hss2 hss3 hna q
  refine ww ?_
  refine wwi hat ?_
  refine ww ?_
  refine wwc hD1 ?_
  refine ww ?_
  refine wwi hat ?_
  refine ww ?_
  refine wwc hD2 ?_
  refine ww ?_
  refine wwi hat ?_
  refine ww ?_
  refine wwc hD3 ?_
  refine ww ?_
  exact ⟨i+1,⟨hi',hta⟩,by omega,⟨.refl _,lz hjp.symm,.int (by rw [qAh (by omega)];omega),trivial⟩,HLe.refl _⟩
 ·have hi':i=l.length:=by rw [hel] at c1;simp at c1;omega
  subst hi'
  rw [List.take_length] at *
  rw [show qOx l=(qEm (l.map qBz),true) by unfold qOx;rw [if_pos hsm]]
  have hne:=vDx 44 (l.map qBz) (fun w hw=>by
   obtain ⟨n,hn,rfl⟩:=List.mem_map.1 hw
   exact flipB_ne n)
  unfold qEm
  by_cases h0:l.map qBz=[]
  ·rw [if_pos h0,h0]
   refine ww ?_
   refine qAa rfl (fun q=>?_) (fun q=>absurd q (by decide))
   refine ww ?_
   exact wwr
  ·rw [if_neg h0]
   refine ww ?_
   refine qAa rfl (fun q=>absurd (hne (by simpa using q)) h0) (fun q=>?_)
   refine ww ?_
   exact wwr
theorem yesR_spec (b:Bool):Spec Tryz.prog 39 [.d (.bool b)] [] (fun r h'=>r=.d (.str (if b then [121,101,115] else [110,111]))∧h'=[]):=by
 refine qAb hT Tryz.func39 rfl rfl rfl rfl ?_;intro E hE
 refine ww ?_
 refine qAa rfl (fun c1=>?_) (fun c1=>?_)
 ·have c1':b=true:=c1
  subst c1'
  refine ww ?_
  exact wwr
 ·have c1':b=false:=c1
  subst c1'
  refine ww ?_
  exact wwr
theorem plainR_spec (s:List UInt8) (hs:s.length≤1000000):Spec Tryz.prog 38 [.d (.str s)] [] (fun r h'=>r=.d (.bool (vBc s))∧h'=[]):=by
 refine qAb hT Tryz.func38 rfl rfl rfl rfl ?_;intro E hE
 refine ww ?_
 refine qAn (ι:=Nat) (fun i=>[(0,.d (.str s)),(3,.I (i:Int))]) (fun _=>[]) (fun i=>i≤s.length∧pcB (s.take i)=true) (fun i=>s.length-i) 0 ⟨Nat.zero_le _,rfl⟩ yf (HLe.refl _) ?_
 rintro i ⟨hi,hw⟩
 have hat:=strAt_n s i
 have hb:0≤bI (s.getD i 0)∧bI (s.getD i 0) < 256:=by have:=(s.getD i 0).toNat_lt;unfold bI;omega
 refine ww ?_
 refine qAa rfl (fun c2=>?_) (fun c2=>?_)
 ·have hi':i < s.length:=by simp at c2;omega
  have hwr:IntKind.i64.wrap ((i:Int)+1)=((i+1:Nat):Int):=by rw [qAh (by omega)];simp
  have hg:s.getD i 0=s[i]:=by simp [hi']
  have hta:=qNh (fun c:UInt8=>decide (32≤c.toNat)&&decide (c.toNat≤126)) s hi' hw
  have hna:=qSi (fun c:UInt8=>decide (32≤c.toNat)&&decide (c.toNat≤126)) s hi'
  simp only [← hg] at hta hna
  generalize s.getD i 0=c at *
  refine ww ?_
  rw [hat]
  refine ww ?_
  by_cases hc:(decide (32≤c.toNat)&&decide (c.toNat≤126))=true
  ·refine qAa rfl (fun q=>?_) (fun q=>?_)
   ·exfalso;unfold bI at q;simp at q hc;omega
   refine ww ?_
   exact ⟨i+1,⟨hi',hta hc⟩,by omega,⟨.refl _,.int hwr,trivial⟩,HLe.refl _⟩
  ·refine qAa rfl (fun q=>?_) (fun q=>?_)
   ·have hno:vBc s=false:=by unfold vBc;rw [show pcB s=false from hna (by simpa using hc)];rfl
    rw [hno]
    refine ww ?_
    exact wwr
   ·exfalso;unfold bI at q;simp at q hc;omega
 ·have hi':i=s.length:=by simp at c2;omega
  subst hi'
  rw [List.take_length] at hw
  unfold vBc
  rw [hw]
  cases s with
  | nil =>
   refine ww ?_
   refine wwk (show decide ((([]:List UInt8).length:Int)≥1)=false from rfl) ?_
   exact wwr
  | cons c r =>
   have hat0:qGa (c::r) 0=bI c:=strAt_n (c::r) 0
   refine ww ?_
   refine rq ⟨rfl,rfl⟩ rfl (.bool ?_)
   rw [hat0,Bool.true_and]
   by_cases hc:c=32
   ·subst hc;simp [bI]
   ·have hb:(bI c != 32)=true:=by
     rw [bne_iff_ne]
     intro hh
     refine hc (UInt8.toNat_inj.1 ?_)
     show c.toNat=32
     unfold bI at hh;omega
    rw [hb]
    simp [hc]
theorem intsR_spec (l m:List Int) (hl:l.length≤1000000):Spec Tryz.prog 19 [.d (.sl 1 (qAl l)),.d (.sl 1 (qAl m))] [] (fun r h'=>r=.d (.bool (decide (l=m)))∧h'=[]):=by
 have hel:=encI_length l
 have hem:=encI_length m
 by_cases hlm:l.length=m.length
 case neg =>
  rw [decide_eq_false (fun hh=>hlm (by rw [hh]))]
  refine qAb hT Tryz.func19 rfl rfl rfl rfl ?_;intro E hE
  refine ww ?_
  refine qAa rfl (fun q=>?_) (fun q=>?_)
  ·refine ww ?_
   exact wwr
  ·exfalso
   rw [hel,hem] at q
   simp at q
   omega
 generalize hfin:decide (l=m)=fin
 have hno:∀ k,(h1:k < l.length)→(h2:k < m.length)→l[k]≠m[k]→fin=false:=fun k h1 h2 h=>by rw [← hfin];exact vFr h1 h2 h
 have hyes:(∀ j,(hj:j < l.length)→(hj2:j < m.length)→l[j]=m[j])→fin=true:=fun h=>by rw [← hfin];exact qZw hlm h
 clear hfin
 refine qAb hT Tryz.func19 rfl rfl rfl rfl ?_;intro E hE
 refine ww ?_
 refine qAa rfl (fun q=>?_) (fun q=>?_)
 ·exfalso
  rw [hel,hem,hlm] at q
  simp at q
 refine ww ?_
 refine qAn (ι:=Nat) (fun k=>[(0,.d (.sl 1 (qAl l))),(1,.d (.sl 1 (qAl m))),(5,.I (k:Int))]) (fun _=>[]) (fun k=>k≤l.length∧∀ j,(hj:j < l.length)→(hj2:j < m.length)→j < k→l[j]=m[j]) (fun k=>l.length-k) 0
  ⟨Nat.zero_le _,fun j h1 h2 h=>by omega⟩ yf (HLe.refl _) ?_
 rintro k ⟨hk,hall⟩
 refine ww ?_
 refine qAa rfl (fun c1=>?_) (fun c1=>?_)
 ·have hk':k < l.length:=by rw [hel] at c1;simp at c1;omega
  have hk2:k < m.length:=by omega
  have h1:=encI_at hk'
  have h2:=encI_at hk2
  have hno:=hno k hk' hk2
  have hnx:l[k]=m[k]→∀ j,(hj:j < l.length)→(hj2:j < m.length)→j < k+1→l[j]=m[j]:=fun h j hj hj2 h3=>by
   by_cases hjk:j=k
   ·subst hjk;exact h
   ·exact hall j hj hj2 (by omega)
  generalize l[k]=x at h1 hno hnx
  generalize m[k]=y at h2 hno hnx
  refine ww ?_
  refine wwi h1 ?_
  refine ww ?_
  refine wwi h2 ?_
  refine ww ?_
  refine qAa rfl (fun c2=>?_) (fun c2=>?_)
  ·rw [hno (by simpa using c2)]
   refine ww ?_
   exact wwr
  ·refine ww ?_
   exact ⟨k+1,⟨hk',hnx (by simpa using c2)⟩,by omega,⟨.refl _,.refl _,.int (by rw [qAh (by omega)];omega),trivial⟩,HLe.refl _⟩
 ·have hk':k=l.length:=by rw [hel] at c1;simp at c1;omega
  subst hk'
  rw [hyes fun j hj hj2=>hall j hj hj2 hj]
  refine ww ?_
  exact wwr
theorem qCe (x y:Akt) (P Q:List (List Dat)) (hP:P.length=x.pts) (hQ:Q.length=y.pts) (h1:x.prots.length≤1000000) (h2:x.faults.length≤1000000) (h3:x.cuts.length≤1000000) (h4:x.flips.length≤1000000) :
  Spec Tryz.prog 7 [.agg (qBn x P),.agg (qBn y Q)] [] (fun r h'=>r=.d (.bool (decide (x=y)))∧h'=[]):=by
 have e1:=intsR_spec x.prots y.prots h1
 have e2:=intsR_spec x.faults y.faults h2
 have e4:=intsR_spec x.cuts y.cuts h3
 clear h1 h2 h3
 obtain ⟨k,a,b,n,st,tx,nu,su,gi,na,bi,se,ex,pr,ba,pt,td,fa,cu,fl⟩:=x
 obtain ⟨k',a',b',n',st',tx',nu',su',gi',na',bi',se',ex',pr',ba',pt',td',fa',cu',fl'⟩:=y
 simp only at *
 have hel:=encFp_length fl
 have hem:=encFp_length fl'
 generalize hfin:decide ((⟨k,a,b,n,st,tx,nu,su,gi,na,bi,se,ex,pr,ba,pt,td,fa,cu,fl⟩:Akt)=⟨k',a',b',n',st',tx',nu',su',gi',na',bi',se',ex',pr',ba',pt',td',fa',cu',fl'⟩)=fin
 have hne:¬ (⟨k,a,b,n,st,tx,nu,su,gi,na,bi,se,ex,pr,ba,pt,td,fa,cu,fl⟩:Akt)=⟨k',a',b',n',st',tx',nu',su',gi',na',bi',se',ex',pr',ba',pt',td',fa',cu',fl'⟩→fin=false:=fun h=>by rw [← hfin];exact decide_eq_false h
 have hd4:decide (cu=cu')=true↔cu=cu':=decide_eq_true_iff
 generalize decide (cu=cu')=d4 at e4 hd4
 unfold qBn
 simp only
 refine qAb hT Tryz.func7 rfl rfl rfl rfl ?_;intro E hE
 refine qAq (qAq ?_)
 refine qAf (qAc ?_)
 refine wws ?_
 refine qAf ?_
 refine qBu (fun i=>bif Nat.beq i 1 then [2] else bif Nat.beq i 3 then [3] else bif Nat.beq i 4||Nat.beq i 6 then [0] else bif Nat.beq i 5||Nat.beq i 7 then [1] else []) (fun i=>bif Nat.beq i 4||Nat.beq i 6 then [0] else bif Nat.beq i 5||Nat.beq i 7 then [1] else []) mixed (by kernel_rfl) ?_
 refine wwg ?_
 refine qAm (os:=[.row qYy]) (v:=.ptr 0 0) (fun k hk hr=>allocAt_ok (i0:=0) hT rfl ordCZ_find ((hr 0 (List.mem_singleton.2 rfl)).trans rfl)) rfl ?_
 refine qAm (os:=[.row qYy]) (v:=.ptr 1 0) (fun k hk hr=>allocAt_ok (i0:=1) hT rfl ordCZ_find ((hr 1 (List.mem_singleton.2 rfl)).trans rfl)) rfl ?_
 refine wwg ?_
 refine ww ?_
 refine wwgc e4 ?_
 refine ww ?_
 refine qAa rfl (fun q=>?_) (fun q=>?_)
 ·rw [hne (fun hh=>by
   cases hh
   rw [hd4.2 rfl] at q
   simp at q)]
  refine ww ?_
  exact wwr
 rw [hel,hem] at q
 simp [hd4] at q
 obtain ⟨⟨⟨⟨⟨⟨⟨q1,q2⟩,q3⟩,q4⟩,q5⟩,q6⟩,q7⟩,q8⟩:=q
 subst q1 q2 q3 q4 q5 q6 q7
 clear hd4 e4
 refine ww ?_
 refine qAn (ι:=Nat) (fun i=>[(2,.ptr 2 0),(3,.ptr 3 0),(5,.ptr 0 0),(6,.ptr 1 0),(7,.I (i:Int))])
  (fun _=>[.row [.d (.str nu),.d (.str su),.d (.str gi),.d (.str na),.d (.str bi),.d (.str se),.I ex,.d (.sl 1 (qAl pr)),.d (.bool ba),.d (.sl 5 P),.I td,.d (.sl 1 (qAl fa))],
   .row [.d (.str nu'),.d (.str su'),.d (.str gi'),.d (.str na'),.d (.str bi'),.d (.str se'),.I ex',.d (.sl 1 (qAl pr')),.d (.bool ba'),.d (.sl 5 Q),.I td',.d (.sl 1 (qAl fa'))],
   .row [.I k,.I a,.I b,.I n,.d (.str st),.d (.str tx),.d (.str nu),.d (.str su),.d (.str gi),.d (.str na),.d (.str bi),.d (.str se),.I ex,.d (.sl 1 (qAl pr)),.d (.bool ba),.d (.sl 5 P),.I td,.d (.sl 1 (qAl fa)),.d (.sl 1 (qAl cu)),.d (.sl 3 (qAr fl))],
   .row [.I k,.I a,.I b,.I n,.d (.str st),.d (.str tx),.d (.str nu'),.d (.str su'),.d (.str gi'),.d (.str na'),.d (.str bi'),.d (.str se'),.I ex',.d (.sl 1 (qAl pr')),.d (.bool ba'),.d (.sl 5 Q),.I td',.d (.sl 1 (qAl fa')),.d (.sl 1 (qAl cu)),.d (.sl 3 (qAr fl'))]])
  (fun i=>i≤fl.length∧∀ j,(hj:j < fl.length)→(hj2:j < fl'.length)→j < i→fl[j]=fl'[j]) (fun i=>fl.length-i) 0 ⟨Nat.zero_le _,fun j h1 h2 h=>by omega⟩ yf (HLe.refl _) ?_
 rintro i ⟨hi,hall⟩
 refine ww ?_
 refine qAa rfl (fun c1=>?_) (fun c1=>?_)
 ·have hi':i < fl.length:=by rw [hel] at c1;simp at c1;omega
  have hi2:i < fl'.length:=by omega
  have h1:=encFp_at hi'
  have h2:=encFp_at hi2
  have hno:fl[i]≠fl'[i]→fin=false:=fun h=>hne fun hh=>h (by have:fl=fl':=congrArg Akt.flips hh;subst this;rfl)
  have hnx:fl[i]=fl'[i]→∀ j,(hj:j < fl.length)→(hj2:j < fl'.length)→j < i+1→fl[j]=fl'[j]:=fun h j hj hj2 h3=>by
   by_cases hjk:j=i
   ·subst hjk;exact h
   ·exact hall j hj hj2 (by omega)
  generalize fl[i]=x at h1 hno hnx
  generalize fl'[i]=y at h2 hno hnx
  obtain ⟨x1,x2,x3⟩:=x
  obtain ⟨y1,y2,y3⟩:=y
  simp only at h1 h2
  have hs:qIr [.int .i64 x1,.int .i64 x2,.int .i64 x3] [.int .i64 y1,.int .i64 y2,.int .i64 y3]=true↔(⟨x1,x2,x3⟩:Flp)=⟨y1,y2,y3⟩:=by simp [qIr,qWr]
  clear hne hfin
  refine ww ?_
  refine wwi h1 ?_
  refine ww ?_
  refine wwi h2 ?_
  refine ww ?_
  refine qCb (qAe (structNe_ok (ds:=[.int .i64 x1,.int .i64 x2,.int .i64 x3]) (es:=[.int .i64 y1,.int .i64 y2,.int .i64 y3]) (ks:=[some .i64,some .i64,some .i64]) rfl (by kernel_rfl) (by kernel_rfl) (by kernel_rfl) (by kernel_rfl) rfl rfl rfl rfl)) rfl rfl ?_
  generalize qIr [.int .i64 x1,.int .i64 x2,.int .i64 x3] [.int .i64 y1,.int .i64 y2,.int .i64 y3]=sb at hs ⊢
  refine ww ?_
  refine qAa rfl (fun c2=>?_) (fun c2=>?_)
  ·rw [hno (fun hh=>by rw [hs.2 hh] at c2;cases c2)]
   refine ww ?_
   exact wwr
  ·refine ww ?_
   exact ⟨i+1,⟨hi',hnx (hs.1 (by simpa using c2))⟩,by omega,⟨.refl _,.refl _,.refl _,.refl _,.int (by rw [qAh (by omega)];omega),trivial⟩,HLe.refl _⟩
 ·have hi':i=fl.length:=by rw [hel] at c1;simp at c1;omega
  subst hi'
  have hfl:fl=fl':=List.ext_getElem (by omega) fun j h1 h2=>hall j h1 h2 h1
  have hfin2:fin=(nu == nu'&&su == su'&&gi == gi'&&na == na'&&bi == bi'&&se == se'&&ex == ex'&&ba == ba'&&decide (pr=pr')&&decide (fa=fa')&&td == td'&&((P.length:Int) == (Q.length:Int))):=by
   subst hfl
   rw [← hfin,Bool.eq_iff_iff]
   simp only [decide_eq_true_eq,Bool.and_eq_true,beq_iff_eq,Akt.mk.injEq,and_assoc,true_and,and_true]
   constructor
   ·rintro ⟨h1,h2,h3,h4,h5,h6,h7,h8,h9,h10,h11,h12⟩
    exact ⟨h1,h2,h3,h4,h5,h6,h7,h9,h8,h12,h11,by omega⟩
   ·rintro ⟨h1,h2,h3,h4,h5,h6,h7,h9,h8,h12,h11,h10⟩
    exact ⟨h1,h2,h3,h4,h5,h6,h7,h8,h9,by omega,h11,h12⟩
  rw [hfin2]
  clear hne hfin hfin2 hall
  generalize decide (pr=pr')=d1 at e1 ⊢
  generalize decide (fa=fa')=d2 at e2 ⊢
  refine ww ?_
  refine wwgc e1 ?_
  refine ww ?_
  refine wwgc e2 ?_
  refine ww ?_
  exact wwr
def lnO (p:List UInt8×Bool):List AV:=[.d (.str p.1),.d (.bool p.2)]
theorem addR_spec (p:List UInt8×Bool) (w:List UInt8) (b:Bool) (h1:p.1.length≤10000000) (h2:w.length≤1000000):Spec Tryz.prog 37 [.ptr 0 0,.d (.str w),.d (.bool b)] [.row (lnO p)] (fun r h'=>r=.tup []∧h'=[.row (lnO (qKn p (w,b)))]):=by
 obtain ⟨s,ok⟩:=p
 unfold lnO qKn
 simp only at *
 have hsw:s++32::w=(s++[32])++w:=by simp
 rw [hsw]
 refine qAb hT Tryz.func37 rfl rfl rfl rfl ?_;intro E hE
 refine qAv (fun i=>bif Nat.beq i 5||Nat.beq i 12||Nat.beq i 18||Nat.beq i 21 then [0] else []) (fun i=>bif Nat.beq i 18||Nat.beq i 21 then [0] else []) mixed (by kernel_rfl) ?_
 refine wwg ?_
 refine qFf hT rfl (fun _=>rfl) rfl rfl rfl ?_
 refine wwg ?_
 refine ww ?_
 exact rqN ⟨rfl,rfl⟩ rfl (.refl _)
theorem wrdR_len (s:List UInt8):(qRn s).1.length≤s.length+1:=by
 unfold qRn qUy
 by_cases h:s=[]
 ·rw [if_pos h];simp
 ·rw [if_neg h,if_neg h]
  split
  ·simp
  ·simp
theorem textLR_spec (p:List UInt8×Bool) (s:List UInt8) (h1:p.1.length≤10000000) (h2:s.length≤12000):Spec Tryz.prog 36 [.ptr 0 0,.d (.str s)] [.row (lnO p)] (fun r h'=>r=.tup []∧h'=[.row (lnO (lnF p (.txt s)))]):=by
 have hw:=wordR_spec s (by omega)
 have hwl:=wrdR_len s
 have ha:=addR_spec p (qRn s).1 (qRn s).2 h1 (by omega)
 show Spec _ _ _ _ (fun r h'=>r=.tup []∧h'=[.row (lnO (qKn p (qRn s)))])
 generalize qRn s=q at hw ha
 obtain ⟨w,b⟩:=q
 simp only at hw ha
 generalize qKn p (w,b)=p' at ha ⊢
 unfold lnO at *
 refine qAb hT Tryz.func36 rfl rfl rfl rfl ?_;intro E hE
 refine ww ?_
 refine wwc hw ?_
 refine ww ?_
 refine qAd (qAk rfl rfl (ha) [0] (by decide) rfl rfl rfl rfl rfl rfl rfl) rfl ?_
 refine ww ?_
 exact rqN ⟨rfl,rfl⟩ rfl (.refl _)
theorem numLR_spec (p:List UInt8×Bool) (n:Int) (h1:p.1.length≤10000000):Spec Tryz.prog 35 [.ptr 0 0,.I n] [.row (lnO p)] (fun r h'=>r=.tup []∧h'=[.row (lnO (lnF p (.num n)))]):=by
 have hs:=smallR_spec n
 show Spec _ _ _ _ (fun r h'=>r=.tup []∧h'=[.row (lnO (vBx p n))])
 unfold vBx
 cases hb:smB n with
 | false =>
  rw [hb] at hs
  obtain ⟨s,ok⟩:=p
  unfold lnO
  simp only [Bool.false_eq_true,if_false]
  refine qAb hT Tryz.func35 rfl rfl rfl rfl ?_;intro E hE
  refine ww ?_
  refine wwc hs ?_
  refine ww ?_
  refine qAa rfl (fun q=>?_) (fun q=>absurd q (by decide))
  refine ww ?_
  exact rqN ⟨rfl,rfl⟩ rfl (.refl _)
 | true =>
  rw [hb] at hs
  have hn:=(smB_iff n).1 hb
  have hd:=qDh n hn
  have ha:=addR_spec p (Lib.itoa n) true h1 (by have:=qAy n (qBe hn);omega)
  simp only [if_true]
  generalize Lib.itoa n=w at hd ha ⊢
  generalize qKn p (w,true)=p' at ha ⊢
  unfold lnO at *
  refine qAb hT Tryz.func35 rfl rfl rfl rfl ?_;intro E hE
  refine ww ?_
  refine wwc hs ?_
  refine ww ?_
  refine qAa rfl (fun q=>absurd q (by decide)) (fun q=>?_)
  refine ww ?_
  refine wwc hd ?_
  refine ww ?_
  refine qAd (qAk rfl rfl (ha) [0] (by decide) rfl rfl rfl rfl rfl rfl rfl) rfl ?_
  refine ww ?_
  exact rqN ⟨rfl,rfl⟩ rfl (.refl _)
theorem lstR_len (l:List Int) (hl:l.length≤3200):(qNr l).1.length≤70400:=by
 unfold qNr
 split
 ·rename_i h
  have:=qEw 44 21 (l.map Lib.itoa) (fun w hw=>by
   obtain ⟨n,hn,rfl⟩:=List.mem_map.1 hw
   exact qAy n (qBe ((smB_iff n).1 (List.all_eq_true.1 h n hn))))
  rw [List.length_map] at this
  unfold qEm
  simp only
  split
  ·simp
  ·omega
 ·simp
theorem flsR_len (l:List Flp) (hl:l.length≤3200):(qOx l).1.length≤211200:=by
 unfold qOx
 split
 ·rename_i h
  have:=qEw 44 65 (l.map qBz) (fun w hw=>by
   obtain ⟨f,hn,rfl⟩:=List.mem_map.1 hw
   obtain ⟨h2,h3,h4⟩:=(flB_iff f).1 (List.all_eq_true.1 h f hn)
   have a1:=qAy f.ap (qBe h2)
   have a2:=qAy f.byt (qBe h3)
   have a3:=qAy f.bit (qBe h4)
   unfold qBz
   simp only [List.length_append,List.length_cons]
   omega)
  rw [List.length_map] at this
  unfold qEm
  simp only
  split
  ·simp
  ·omega
 ·simp
theorem numsLR_spec (p:List UInt8×Bool) (l:List Int) (h1:p.1.length≤10000000) (h2:l.length≤3200):Spec Tryz.prog 40 [.ptr 0 0,.d (.sl 1 (qAl l))] [.row (lnO p)] (fun r h'=>r=.tup []∧h'=[.row (lnO (lnF p (.nums l)))]):=by
 have hw:=listR_spec l (by omega)
 have hwl:=lstR_len l h2
 have ha:=addR_spec p (qNr l).1 (qNr l).2 h1 (by omega)
 show Spec _ _ _ _ (fun r h'=>r=.tup []∧h'=[.row (lnO (qKn p (qNr l)))])
 generalize qNr l=q at hw ha
 obtain ⟨w,b⟩:=q
 simp only at hw ha
 generalize qKn p (w,b)=p' at ha ⊢
 unfold lnO at *
 refine qAb hT Tryz.func40 rfl rfl rfl rfl ?_;intro E hE
 refine ww ?_
 refine wwc hw ?_
 refine ww ?_
 refine qAd (qAk rfl rfl (ha) [0] (by decide) rfl rfl rfl rfl rfl rfl rfl) rfl ?_
 refine ww ?_
 exact rqN ⟨rfl,rfl⟩ rfl (.refl _)
def fokR:Fld→Prop
 | .num _=>True
 | .txt s=>s.length≤12000
 | .rst s=>s.length≤12000
 | .flg _=>True
 | .nums l=>l.length≤3200
 | .flps l=>l.length≤3200
theorem addR_len (p w:List UInt8×Bool):(qKn p w).1.length=p.1.length+1+w.1.length:=by unfold qKn;simp;omega
theorem lnF_len {p:List UInt8×Bool} {f:Fld} (h:fokR f):(lnF p f).1.length≤p.1.length+211300:=by
 cases f with
 | num n =>
  show (vBx p n).1.length≤_
  unfold vBx
  split
  ·rename_i hh
   have:=qAy n (qBe ((smB_iff n).1 hh))
   rw [addR_len];simp only;omega
  ·simp
 | txt s=>have h:s.length≤12000:=h;have:=wrdR_len s;show (qKn p (qRn s)).1.length≤_;rw [addR_len];omega
 | rst s=>have h:s.length≤12000:=h;show (qKn p (s,_)).1.length≤_;rw [addR_len];simp only;omega
 | flg b=>show (qKn p (_,_)).1.length≤_;rw [addR_len];simp only;split <;> simp <;> omega
 | nums l=>have h:l.length≤3200:=h;have:=lstR_len l h;show (qKn p (qNr l)).1.length≤_;rw [addR_len];omega
 | flps l=>have h:l.length≤3200:=h;have:=flsR_len l h;show (qKn p (qOx l)).1.length≤_;rw [addR_len];omega
theorem namesR_spec:Spec Tryz.prog 13 [] [] (fun r h'=>r=.d (.sl 1 (qAg ([]::qBt)))∧h'=[]):=by
 refine qAb hT Tryz.func13 rfl rfl rfl rfl ?_;intro E hE
 refine ww ?_
 exact rq ⟨rfl,rfl⟩ rfl (AV.le.dat' rfl)
theorem nameR_at {k:Int} (h:1≤k∧k≤11):(qAg ([]::qBt))[k.toNat]?=some [.str (qAx k)]:=by
 rcases (by omega:k=1∨k=2∨k=3∨k=4∨k=5∨k=6∨k=7∨k=8∨k=9∨k=10∨k=11) with rfl | rfl | rfl | rfl | rfl | rfl | rfl | rfl | rfl | rfl | rfl <;> rfl
theorem bI_eq {a b:UInt8}:bI a=bI b↔a=b:=⟨fun h=>UInt8.toNat_inj.1 (by unfold bI at h;omega),fun h=>by rw [h]⟩
theorem vCs {α:Type} (s:List α) {at_ i:Nat} (h:at_≤i):s.drop at_=(s.drop at_).take (i-at_)++s.drop i:=by
 have:=(List.take_append_drop (i-at_) (s.drop at_)).symm
 rwa [List.drop_drop,show at_+(i-at_)=i by omega] at this
theorem cutO_spec (c:UInt8) (s:List UInt8) (hs:s.length≤1000000):Spec Tryz.prog 11 [.d (.str s),.d (.int .u8 (bI c))] [.room] (fun r h'=>r=.sl 1 (qAg (spl c s)) (.right 0)∧h'=[.right 1 (qAg (spl c s)).length]):=by
 have hcb:0≤bI c∧bI c < 256:=by have:=c.toNat_lt;unfold bI;omega
 refine qAb hT Tryz.func11 rfl rfl rfl rfl ?_;intro E hE
 refine ww ?_
 refine qBc 5 1 0 (es:=[]) (.inr ⟨rfl,rfl⟩) rfl ?_
 refine qAn (ι:=Nat×Nat×List (List UInt8)) (fun x=>[(0,.d (.str s)),(1,.d (.int .u8 (bI c))),(5,.sl 1 (qAg x.2.2) (.right 0)),(6,.I (x.2.1:Int)),(7,.I (x.1:Int))]) (fun x=>[.right 1 (qAg x.2.2).length])
  (fun x=>x.2.1≤x.1∧x.1≤s.length+1∧x.2.2.length≤x.1∧(x.1≤s.length→x.2.2++spl c (s.drop x.2.1)=spl c s∧c∉(s.drop x.2.1).take (x.1-x.2.1))∧(x.1=s.length+1→x.2.2=spl c s)) (fun x=>s.length+1-x.1) (0,0,[])
  ⟨Nat.le_refl _,by simp,by simp,fun _=>⟨by simp,by simp⟩,fun h=>by simp at h⟩ yf (HLe.refl _) ?_
 rintro ⟨i,j,dn⟩ ⟨hj,hi,hdl,hin,hend⟩
 simp only at hj hi hdl hin hend ⊢
 have hll:=strsAV_length dn
 refine ww ?_
 refine qAa rfl (fun c1=>?_) (fun c1=>?_)
 ·have hi':i≤s.length:=by simp at c1;omega
  obtain ⟨h1,h2⟩:=hin hi'
  have hwr:IntKind.i64.wrap ((i:Int)+1)=((i+1:Nat):Int):=by rw [qAh (by omega)];simp
  have hcut:qRp s (j:Int) (i:Int)=(s.drop j).take (i-j):=by unfold qRp;rw [Int.toNat_natCast,Int.toNat_natCast]
  by_cases hl:i=s.length
  ·have hpc:(s.drop j).take (i-j)=s.drop j:=List.take_of_length_le (by rw [List.length_drop];omega)
   have hfin:dn++[(s.drop j).take (i-j)]=spl c s:=by rw [← h1,hpc,qKd (by rw [← hpc];exact h2)]
   have hsn:=strsAV_snoc dn ((s.drop j).take (i-j))
   rw [hfin] at hsn
   have hin':i+1≤s.length→False:=fun h=>by omega
   have hle:(spl c s).length≤i+1:=by rw [← hfin];simp;omega
   clear hin hend h1 h2 hpc hfin
   generalize qAg dn=S at hsn hll ⊢
   subst hl
   refine ww ?_
   refine wwk (show ((s.length:Int) == (s.length:Int))=true by simp) ?_
   refine qAa rfl (fun q=>?_) (fun q=>absurd q (by simp))
   refine ww ?_
   refine qAd (qAs (i:=0) hT rfl rfl rfl rfl rfl rfl (by show (S.length+1)*(16+1)≤_;omega)) rfl ?_
   refine ww ?_
   refine ⟨(s.length+1,s.length+1,spl c s),⟨Nat.le_refl _,Nat.le_refl _,hle,fun h=>(hin' h).elim,fun _=>rfl⟩,by simp only;omega,⟨.refl _,.refl _,AV.le.eq ?_,.int hwr,.int hwr,trivial⟩,?_⟩
   ·show AV.sl 1 (S++[[.str (qRp s (j:Int) (s.length:Int))]]) (.right 0)=_
    rw [hcut,← hsn]
   ·refine ⟨?_,trivial⟩
    rw [hsn,← hcut]
    exact ObLe.refl _
  ·have hi2:i < s.length:=by omega
   have hat:=strAt_n s i
   have hg:s.getD i 0=s[i]:=by simp [hi2]
   have hb:0≤bI (s.getD i 0)∧bI (s.getD i 0) < 256:=by have:=(s.getD i 0).toNat_lt;unfold bI;omega
   have hdi:s.drop i=s[i]::s.drop (i+1):=List.drop_eq_getElem_cons hi2
   have hda:=vCs s hj
   have htk:(s.drop j).take (i+1-j)=(s.drop j).take (i-j)++[s[i]]:=by
    rw [show i+1-j=(i-j)+1 by omega,List.take_succ_eq_append_getElem (by rw [List.length_drop];omega)]
    simp [show j+(i-j)=i by omega]
   by_cases hc:s[i]=c
   ·have hspl:spl c (s.drop j)=(s.drop j).take (i-j)::spl c (s.drop (i+1)):=by
     conv=>lhs;rw [hda,hdi,hc]
     exact qDc h2 _
    have hfin:(dn++[(s.drop j).take (i-j)])++spl c (s.drop (i+1))=spl c s:=by rw [← h1,hspl];simp
    have hsn:=strsAV_snoc dn ((s.drop j).take (i-j))
    have hbc:bI (s.getD i 0)=bI c:=by rw [hg,hc]
    clear hin hend h1 h2 hda htk hspl hdi
    generalize hd2:dn++[(s.drop j).take (i-j)]=d2 at hfin hsn
    have hle:d2.length≤i+1:=by rw [← hd2];simp;omega
    generalize qAg dn=S at hsn hll ⊢
    refine ww ?_
    rw [hat,hbc]
    refine qAa rfl (fun q=>?_) (fun q=>absurd q (by simp))
    refine ww ?_
    refine qAd (qAs (i:=0) hT rfl rfl rfl rfl rfl rfl (by show (S.length+1)*(16+1)≤_;omega)) rfl ?_
    refine ww ?_
    refine ⟨(i+1,i+1,d2),⟨Nat.le_refl _,by simp only;omega,hle,fun _=>⟨hfin,by simp⟩,fun h=>by simp only at h;omega⟩,by simp only;omega,⟨.refl _,.refl _,AV.le.eq ?_,.int hwr,.int hwr,trivial⟩,?_⟩
    ·show AV.sl 1 (S++[[.str (qRp s (j:Int) (i:Int))]]) (.right 0)=_
     rw [hcut,← hsn]
    ·refine ⟨?_,trivial⟩
     rw [hsn,← hcut]
     exact ObLe.refl _
   ·have hbc:¬ bI (s.getD i 0)=bI c:=fun hh=>hc (by rw [← hg];exact bI_eq.1 hh)
    have hnm:c∉(s.drop j).take (i+1-j):=by
     rw [htk,List.mem_append,List.mem_singleton]
     rintro (h | h)
     ·exact h2 h
     ·exact hc h.symm
    refine ww ?_
    rw [hat]
    refine qAa rfl (fun q=>?_) (fun q=>?_)
    ·exfalso
     simp only [Bool.or_eq_true,beq_iff_eq] at q
     rcases q with q | q
     ·omega
     ·exact hbc q
    refine ww ?_
    exact ⟨(i+1,j,dn),⟨by simp only;omega,by simp only;omega,by simp only;omega,fun _=>⟨h1,hnm⟩,fun h=>by simp only at h;omega⟩,by simp only;omega,⟨.refl _,.refl _,.refl _,.refl _,.int hwr,trivial⟩,HLe.refl _⟩
 ·have hi':i=s.length+1:=by simp at c1;omega
  have hend:=hend hi'
  subst hend
  refine ww ?_
  exact rq (h':=[.right 1 (qAg (spl c s)).length]) ⟨rfl,rfl⟩ rfl (.refl _)
def wdO (L:List (List UInt8)) (i:Nat):List AV:=[.d (.sl 1 (qAg L)),.d (.int .i64 (i:Int))]
theorem nextR_spec (L:List (List UInt8)) (i:Nat) (hi:i≤1000000):Spec Tryz.prog 12 [.ptr 0 0] [.row (wdO L i)] (fun r h'=>r=.d (.str (L.getD i []))∧h'=[.row (wdO L (i+1))]):=by
 have hwr:IntKind.i64.wrap ((i:Int)+1)=((i+1:Nat):Int):=by rw [qAh (by omega)];simp
 have hwb:IntKind.i64.wrap (((i+1:Nat):Int)-1)=(i:Int):=by rw [qAh (by omega)];omega
 have hll:=strsAV_length L
 unfold wdO
 refine qAb hT Tryz.func12 rfl rfl rfl rfl ?_;intro E hE
 refine ww ?_
 rw [hwr]
 refine qAa rfl (fun c1=>?_) (fun c1=>?_)
 ·have hn:L.getD i []=[]:=by
   rw [hll] at c1
   simp at c1
   simp [List.getD_eq_getElem?_getD,List.getElem?_eq_none (by omega:L.length≤i)]
  rw [hn]
  refine ww ?_
  exact rq ⟨rfl,rfl⟩ rfl (.refl _)
 ·have hi':i < L.length:=by rw [hll] at c1;simp at c1;omega
  have hat:(qAg L)[(IntKind.i64.wrap (((i+1:Nat):Int)-1)).toNat]?=some [.str (L.getD i [])]:=by
   rw [hwb,strsAV_at hi'];simp [hi']
  generalize L.getD i []=w at hat ⊢
  refine ww ?_
  refine wwi hat ?_
  refine ww ?_
  exact rq ⟨rfl,rfl⟩ rfl (.refl _)
def wt (s:List UInt8):List UInt8:=s.map fun c=>if c=95 then 32 else c
theorem textR45_spec (L:List (List UInt8)) (i:Nat) (hi:i≤1000000) (hw:(L.getD i []).length≤1000000):Spec Tryz.prog 15 [.ptr 0 0] [.row (wdO L i)] (fun r h'=>r=.d (.str (qBa (L.getD i [])))∧h'=[.row (wdO L (i+1))]):=by
 have hn:=nextR_spec L i hi
 generalize L.getD i []=s at hn hw ⊢
 unfold wdO at hn ⊢
 generalize qAg L=SL at hn ⊢
 generalize ((i+1:Nat):Int)=m at hn ⊢
 unfold qBa
 refine qAb hT Tryz.func15 rfl rfl rfl rfl ?_;intro E hE
 refine ww ?_
 refine qAd (qAk rfl rfl (hn) [0] (by decide) rfl rfl rfl rfl rfl rfl rfl) rfl ?_
 refine ww ?_
 refine qAa rfl (fun c1=>?_) (fun c1=>?_)
 ·have c1':s=[95]:=by simpa using c1
  rw [if_pos c1']
  refine ww ?_
  exact rq ⟨rfl,rfl⟩ rfl (.refl _)
 ·have c1':¬ s=[95]:=by simpa using c1
  rw [if_neg c1']
  refine ww ?_
  refine qAn (ι:=Nat) (fun i=>[(3,.d (.str s)),(4,.d (.str (wt (s.take i)))),(5,.I (i:Int))]) (fun _=>[.row [.d (.sl 1 SL),.I m]]) (fun i=>i≤s.length) (fun i=>s.length-i) 0 (Nat.zero_le _) yf (HLe.refl _) ?_
  intro i hi
  have hat:=strAt_n s i
  have hb:0≤bI (s.getD i 0)∧bI (s.getD i 0) < 256:=by have:=(s.getD i 0).toNat_lt;unfold bI;omega
  have hol:(wt (s.take i)).length≤1000000:=by unfold wt;rw [List.length_map,List.length_take];omega
  refine ww ?_
  refine qAa rfl (fun c2=>?_) (fun c2=>?_)
  ·have hi':i < s.length:=by simp at c2;omega
   have hwr:IntKind.i64.wrap ((i:Int)+1)=((i+1:Nat):Int):=by rw [qAh (by omega)];simp
   have hg:s.getD i 0=s[i]:=by simp [hi']
   have hwo:wt (s.take (i+1))=wt (s.take i)++[if s[i]=95 then 32 else s[i]]:=by rw [take_succ' s hi'];unfold wt;rw [List.map_append];rfl
   have hgs:[s[i]]=[s.getD i 0]:=by rw [hg]
   have hcl:(qRp s (i:Int) (IntKind.i64.wrap ((i:Int)+1))).length≤1:=by rw [hwr,cutL_one hi'];simp
   rw [← hg] at hwo
   generalize s.getD i 0=c at *
   refine ww ?_
   rw [hat]
   refine ww ?_
   refine qAa rfl (fun c3=>?_) (fun c3=>?_)
   ·have hc:c=95:=bI_eq.1 ((by simpa using c3:bI c=95).trans rfl)
    subst hc
    refine ww ?_
    exact ⟨i+1,hi',by omega,⟨.refl _,lz (by rw [hwo];rfl),.int hwr,trivial⟩,HLe.refl _⟩
   ·have hc:¬ c=95:=fun hh=>by subst hh;simp [bI] at c3
    refine ww ?_
    refine ⟨i+1,hi',by omega,⟨.refl _,lz ?_,.int hwr,trivial⟩,HLe.refl _⟩
    rw [hwo,if_neg hc]
    show _++qRp s (i:Int) (IntKind.i64.wrap ((i:Int)+1))=_
    rw [hwr,cutL_one hi',hgs]
  ·have hi':i=s.length:=by simp at c2;omega
   subst hi'
   rw [List.take_length]
   refine ww ?_
   exact rq ⟨rfl,rfl⟩ rfl (.refl _)
end Tdoc
