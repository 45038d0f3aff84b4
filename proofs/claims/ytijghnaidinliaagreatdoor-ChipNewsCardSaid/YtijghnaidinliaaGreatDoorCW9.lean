/- Part 9 of the proof: the texts CH KW CI CJ CK HA HB HQ HR CL HC HD CM CN CO CP CQ CR CS. -/
import Derived.Test.YtijghnaidinliaaGreatDoorCW8
set_option maxHeartbeats 8000000
set_option maxRecDepth 100000
set_option linter.unusedVariables false
set_option linter.unusedSimpArgs false
namespace Tdoc
open Go Go.Proofs
theorem qSq {r:List UInt8} {M i:Nat} (hi:i < r.length) (hr:r.length≤M):(r.take i++List.replicate (M-i) (0:UInt8)).set i r[i]=r.take (i+1)++List.replicate (M-(i+1)) 0:=by
 have hl:(r.take i).length=i:=by rw [List.length_take];omega
 rw [List.set_append_right _ _ (by omega),hl,Nat.sub_self,show M-i=(M-(i+1))+1 by omega,List.replicate_succ,List.set_cons_zero,List.take_succ_eq_append_getElem hi,List.append_assoc]
 rfl
theorem byteAV_set8 (a b c d e f g h:UInt8) (R:List UInt8) (i:Nat) (x:UInt8):(qAx (a::b::c::d::e::f::g::h::R)).set (i+8) (.d (.int .u8 (x.toNat:Int)))=qAx (a::b::c::d::e::f::g::h::R.set i x):=by
 simp [qAx,List.map_set]
theorem qRs (r:List UInt8) (hr:r.length≤256):Spec Tryz.prog 84 [.I 0,.d (.sl 1 (qAg r))] [] (fun v h'=>v=.d (.sl 1 (qAg (qBr 6 0++qBr 2 r.length++r++List.replicate (256-r.length) 0)))∧h'=[]):=by
 have hrl:=encB_length r
 obtain ⟨M,hM⟩:∃ M:Nat,M=256:=⟨_,rfl⟩
 have hz:List.replicate 264 (AV.d (.int .u8 0))=qAx (0::0::0::0::0::0::0::0::List.replicate M 0):=by
  rw [show (264:Nat)=M+1+1+1+1+1+1+1+1 by omega]
  simp only [List.replicate_succ]
  simp [qAx]
 have hs0:∀ i,i < 6→(qAx (0::0::0::0::0::0::0::0::List.replicate M 0)).set i (.d (.int .u8 0))=qAx (0::0::0::0::0::0::0::0::List.replicate M 0):=by
  intro i hi
  rcases (by omega:i=0∨i=1∨i=2∨i=3∨i=4∨i=5) with rfl | rfl | rfl | rfl | rfl | rfl <;> rfl
 have hlen:∀ (a b:UInt8) (R:List UInt8),(qAx (0::0::0::0::0::0::a::b::R)).length=R.length+8:=fun a b R=>by rw [byteAV_length];rfl
 have hfin:qBr 6 0++qBr 2 r.length++r++List.replicate (256-r.length) 0=0::0::0::0::0::0::bOf ((r.length:Int) / 256)::bOf (r.length:Int)::(r++List.replicate (M-r.length) 0):=by
  rw [oct2,hM]
  simp [qBr]
 rw [hfin]
 refine qAb hT Tryz.func84 rfl rfl rfl rfl ?_;intro E hE
 refine qAl (qAh ?_)
 refine wws ?_
 refine qAl (qAh ?_)
 refine qAe (makeRow1_ok (n:=264) (z:=.d (.int .u8 0)) hT rfl rfl rfl rfl (by decide) (by decide)) rfl ?_
 rw [hz]
 refine wws ?_
 refine ww ?_
 refine qAw (ι:=Nat) (fun i=>[(0,.I 0),(1,.d (.sl 1 (qAg r))),(5,.row 0 0 264 264),(6,.I (i:Int))]) (fun _=>[.row (qAx (0::0::0::0::0::0::0::0::List.replicate M 0))]) (fun i=>i≤6) (fun i=>6-i) 0 (by omega) yf (HLe.refl _) ?_
 intro i hi
 have hwr:IntKind.i64.wrap ((i:Int)+1)=((i+1:Nat):Int):=by rw [qAj (by omega)];simp
 have hs0:=hs0 i
 have hl0:=hlen 0 0 (List.replicate M 0)
 rw [List.length_replicate] at hl0
 generalize hrow:qAx (0::0::0::0::0::0::0::0::List.replicate M 0)=row at hs0 hl0 ⊢
 refine ww ?_
 refine qAa rfl (fun c1=>?_) (fun c1=>?_)
 ·have c1':i < 6:=by simp at c1;omega
  have hsh:IntKind.u64.wrap (IntKind.i64.wrap (40-IntKind.i64.wrap (8*(i:Int))))=((40-8*i:Nat):Int):=by rw [qAj (n:=8*(i:Int)) (by omega),qAj (by omega),wrapu64 (by omega)];omega
  refine ww ?_
  rw [hsh]
  refine ww ?_
  refine qAe (qAd (rowAddr_ok (sz:=1) hT rfl rfl rfl rfl (by omega))) rfl ?_
  refine qBb (qCf (i:=0) (off:=0+((i:Int)).toNat*1) hT rfl rfl rfl rfl rfl rfl (by rw [hl0];omega)) (forceS_eq _ _) ?_
  refine ww ?_
  refine ⟨i+1,by omega,by omega,⟨.refl _,.refl _,.refl _,.int hwr,trivial⟩,⟨ObLe.row ?_,trivial⟩⟩
  rw [show 0+((i:Int)).toNat*1=i by omega]
  refine Eq.trans ?_ (hs0 c1')
  congr 1
 clear hs0
 have hi6:i=6:=by simp at c1;omega
 subst hi6
 have hb1:IntKind.u8.wrap (Int.fdiv (r.length:Int) (2 ^ (min (8:Int).toNat IntKind.i64.bits)))=((bOf ((r.length:Int) / 256)).toNat:Int):=by rw [qKe,bOf_wrap]
 have hb2:IntKind.u8.wrap (r.length:Int)=((bOf (r.length:Int)).toNat:Int):=bOf_wrap _
 generalize bOf ((r.length:Int) / 256)=b1 at hb1 ⊢
 generalize bOf (r.length:Int)=b2 at hb2 ⊢
 subst hrow
 have hl1:=hlen b1 0 (List.replicate M 0)
 rw [List.length_replicate] at hl1
 refine ww ?_
 rw [hrl,hb1,hb2]
 refine qAe (qAd (rowAddr_ok (sz:=1) hT rfl rfl rfl rfl ⟨by decide,by decide⟩)) rfl ?_
 refine qBb (qCf (i:=0) (off:=6) hT rfl rfl rfl rfl rfl rfl (by rw [hl0];omega)) (forceS_eq _ _) ?_
 refine qAe (qAd (rowAddr_ok (sz:=1) hT rfl rfl rfl rfl ⟨by decide,by decide⟩)) rfl ?_
 refine qBb (qCf (i:=0) (off:=7) hT rfl rfl rfl rfl rfl rfl (by rw [List.length_set,hl0];omega)) (forceS_eq _ _) ?_
 refine ww ?_
 refine qAw (ι:=Nat) (fun i=>[(1,.d (.sl 1 (qAg r))),(5,.row 0 0 264 264),(7,.I (i:Int))]) (fun i=>[.row (qAx (0::0::0::0::0::0::b1::b2::(r.take i++List.replicate (M-i) 0)))]) (fun i=>i≤r.length) (fun i=>r.length-i) 0 (by omega) yf (HLe.refl _) ?_
 intro i hi
 have hwr:IntKind.i64.wrap ((i:Int)+1)=((i+1:Nat):Int):=by rw [qAj (by omega)];simp
 have hw8:IntKind.i64.wrap (8+(i:Int))=((i+8:Nat):Int):=by rw [qAj (by omega)];omega
 have hl2:=hlen b1 b2 (r.take i++List.replicate (M-i) 0)
 rw [List.length_append,List.length_take,List.length_replicate] at hl2
 refine ww ?_
 refine qAa rfl (fun c2=>?_) (fun c2=>?_)
 ·have c2':i < r.length:=by rw [hrl] at c2;simpa using c2
  have hel:(qAg r)[((i:Int)).toNat]?=some [.int .u8 (r[i].toNat:Int)]:=by rw [Int.toNat_natCast];simp [qAg,c2']
  have hst:=byteAV_set8 0 0 0 0 0 0 b1 b2 (r.take i++List.replicate (M-i) 0) i r[i]
  rw [qSq c2' (by omega)] at hst
  generalize qAx (0::0::0::0::0::0::b1::b2::(r.take i++List.replicate (M-i) 0))=row at hst hl2 ⊢
  refine ww ?_
  rw [hw8]
  refine wwi hel ?_
  refine ww ?_
  refine qAe (qAd (rowAddr_ok (sz:=1) hT rfl rfl rfl rfl (by omega))) rfl ?_
  refine qBb (qCf (i:=0) (off:=0+(((i+8:Nat):Int)).toNat*1) hT rfl rfl rfl rfl rfl rfl (by rw [hl2];omega)) (forceS_eq _ _) ?_
  refine ww ?_
  refine ⟨i+1,by omega,by omega,⟨.refl _,.refl _,.int hwr,trivial⟩,⟨ObLe.row ?_,trivial⟩⟩
  rw [show 0+(((i+8:Nat):Int)).toNat*1=i+8 by omega]
  exact hst
 have hir:i=r.length:=by rw [hrl] at c2;simp at c2;omega
 subst hir
 rw [List.take_length]
 refine wwe ?_
 refine qKb 5 0 1 (qAg (0::0::0::0::0::0::b1::b2::(r++List.replicate (M-r.length) 0))) rfl rfl (by rw [encB_length];simp;omega) (qDb _) ?_
 refine ww ?_
 exact wwr
def chOff:List AV:=[.d (.bool false),.d (.int .i64 0),.d (.int .i64 0),.d (.int .i64 0),.d (.bool false),.d (.bool false),.d (.bool false),.d (.int .i64 0),.d (.bool false),.sl 1 [] .full,.sl 1 [] .full,.d (.int .i64 0),.d (.int .i64 0),.d (.int .i64 0),.d (.int .i64 0),.sl 1 [] .full,.d (.int .i64 0),.d (.int .i64 0),.sl 1 [] .full,.d (.int .i64 0),.d (.int .i64 0),.d (.int .i64 0),.d (.int .i64 0),.sl 1 [] .full,.sl 1 [] .full,.d (.int .i64 0),.sl 1 [] .full,.d (.str []),.d (.int .i64 0),.d (.int .i64 0),.d (.int .i64 0),.d (.int .i64 0),.d (.int .i64 0),.sl 1 [] .full,.d (.bool false),.d (.int .i64 0),.d (.int .i64 0),.d (.int .i64 0),.d (.int .i64 0),.sl 1 [] .full,.d (.int .i64 0)]
def chC (p:Per) (m0 m1:List (List Dat)):List AV:=qBj p++[.d (.sl 1 m0),.d (.sl 1 m1),.d (.sl 1 (qAg p.seed))]++chOff
abbrev tiC:TI:=⟨.struct [(0,16,true),(16,2,true),(18,1,false),(19,1,false),(20,2,true),(22,5,true),(27,1,false),(28,3,true),(31,1,false),(32,1,false),(33,12,true),(45,1,false),(46,6,true),(52,1,false),(53,1,false),(54,6,true)],60,816,qFu++[.sl 1 [] .full,.sl 1 [] .full,.sl 1 [] .full]++chOff⟩
theorem tiC_find:T.find 71=some tiC:=rfl
theorem L60 {C:List AV} (h:C.length=60):qGp T 71 C 0=some (.agg C):=loadA_agg tiC_find rfl (by rw [h];exact Nat.le_refl _) (List.take_of_length_le (by rw [List.length_drop,h];exact Nat.le_refl _))
theorem S60 {C D:List AV} (h1:D.length=60) (h2:C.length=60):qFe T 71 D 0 (.agg C)=some C:=storeA_agg tiC_find h2 (by rw [h1];exact Nat.le_refl _) (setRun_full (by rw [h1,h2]))
theorem recF_len {pr ur:Int} {pin:List UInt8} {l:List Tp} {day:Int}:(qJj pr ur pin l day).1.length≤100:=by
 unfold qJj
 split
 ·simp
 split
 ·simp
 split
 ·simp
 rename_i h1 h2 h3
 have hv:qBk l day=0:=by
  unfold qBp at h3
  by_cases h0:qBk l day=0
  ·exact h0
  ·rw [if_pos (by simpa using h0)] at h3;exact absurd (by simpa using h3) h0
 obtain ⟨hlen,hpts⟩:=validTr_ok hv
 have hl:=trN_len (l:=l) day (fun p hp=>qFd (pointE_ok (hpts p hp)).1) l.length (Nat.le_refl _)
 have htf:qBl l day=trN l day l.length:=by unfold qBl trN;rw [List.take_length]
 have he:(qBp l day).1=qBl l day:=by unfold qBp;rw [if_neg (by simpa using hv)]
 rw [he,htf]
 simp only [List.length_append,List.length_cons,List.length_nil]
 omega
theorem qOa (p:Per) (m0 m1:List (List Dat)):qHf T 71 [(0,qBw p),(1,.agg [.d (.sl 1 m0),.d (.sl 1 m1)]),(2,.d (.sl 1 (qAg p.seed)))]=some (.agg (chC p m0 m1)):=by
 kernel_rfl
def mem0 (p:Per):List UInt8:=qBv 0 (qJj p.pr p.ur p.pin p.tps p.tday).1
theorem newChip_spec (p:Per) (hp:PerLen p) (hn:∀ t,t∈p.tps→t.holder.length≤1000000) (hv:qCi p=0):Spec Tryz.prog 19 [qBw p] [] (fun r h'=>r=.tup [.agg (chC p (qAg (mem0 p)) (qAg (List.replicate 265 0))),.I 0]∧h'=[]):=by
 have h1:=validP_spec p hp hn
 rw [hv] at h1
 have h2:=encRec_spec p.pr p.ur p.pin p.tps p.tday (by have:=hp.str.2.1;omega) (by have:=hp.tps;omega) (fun t ht=>by have:=hn t ht;omega)
 have hrl:=recF_len (pr:=p.pr) (ur:=p.ur) (pin:=p.pin) (l:=p.tps) (day:=p.tday)
 have h3:=qQi (qJj p.pr p.ur p.pin p.tps p.tday).1 (by omega)
 rw [if_neg (by omega)] at h3
 have h4:=clonePer_spec p hp
 have h5:=qBc (qAg p.seed) (by rw [encB_length];exact hp.str.2.2.2.2)
 unfold mem0
 clear hp hn hv hrl
 generalize qBv 0 (qJj p.pr p.ur p.pin p.tps p.tday).1=im at h3 ⊢
 generalize qJj p.pr p.ur p.pin p.tps p.tday=R at h2 h3
 obtain ⟨R1,R2⟩:=R
 simp only at h2 h3
 generalize qAg (List.replicate 265 0)=ze at h3 ⊢
 generalize qAg im=im at h3 ⊢
 obtain ⟨root,apps,zone,number,pin,puk,pr,ur,basic,infos,ck,ak,tps,tday,ident,seed⟩:=p
 simp only at *
 refine qAb hT Tryz.func19 rfl rfl rfl rfl ?_;intro E hE
 refine qAi ?_
 refine qAl (qAh ?_)
 refine wk hT rfl rfl ?_
 refine qAe (allocAt_ok (i0:=0) (i:=tiC) hT rfl tiC_find rfl) rfl ?_
 refine wws ?_
 refine wwn ?_
 refine wwc h1 ?_
 refine wwn ?_
 refine qAa rfl (fun c1=>?_) (fun c1=>?_)
 ·exact absurd c1 (by simp)
 refine wwn ?_
 refine wwc h2 ?_
 refine wwn ?_
 refine wwc h3 ?_
 refine wwn ?_
 refine qAa rfl (fun c2=>?_) (fun c2=>?_)
 ·exact absurd c2 (by simp)
 refine wwn ?_
 refine qAy (fun i=>bif Nat.beq i 0||Nat.beq i 4 then [1] else bif Nat.beq i 2 then [2] else bif Nat.beq i 7 then [0] else []) (fun i=>bif Nat.beq i 7 then [0] else []) mixed (by kernel_rfl) ?_
 refine wwg ?_
 refine wwdc h4 ?_
 refine wwg ?_
 refine wwdc h5 ?_
 refine qAm (v:=.agg (chC ⟨root,apps,zone,number,pin,puk,pr,ur,basic,infos,ck,ak,tps,tday,ident,seed⟩ im ze)) (os:=[]) (fun k hk1 hk2=>qAd (qDe hT rfl (qOa ⟨root,apps,zone,number,pin,puk,pr,ur,basic,infos,ck,ak,tps,tday,ident,seed⟩ im ze))) rfl ?_
 refine qAm (v:=.any) (os:=[.row (chC ⟨root,apps,zone,number,pin,puk,pr,ur,basic,infos,ck,ak,tps,tday,ident,seed⟩ im ze)]) (fun k hk1 hk2=>qAz (i:=0) (off:=0) hT rfl rfl ((hk2 0 List.mem_cons_self).trans rfl) (S60 rfl rfl)) rfl ?_
 refine wwg ?_
 refine ww ?_
 exact wwr
theorem image0 (r:List UInt8):qBv 0 r=[1]++(qBr 6 0++qBr 2 r.length++r++List.replicate (256-r.length) 0):=by unfold qBv;simp
theorem qMj (r:List UInt8) (hr:r.length≤1000000):Spec Tryz.prog 45 [.d (.sl 1 (qAg r))] [] (fun v h'=>v=(if r.length > 256 then .tup [.agg [.d (.sl 1 []),.d (.sl 1 [])],.I 2] else .tup [.agg [.d (.sl 1 (qAg (qBv 0 r))),.d (.sl 1 (qAg (List.replicate 265 0)))],.I 0])∧h'=[]):=by
 have hrl:=encB_length r
 by_cases h0:r.length > 256
 ·rw [if_pos h0]
  refine qAb hT Tryz.func45 rfl rfl rfl rfl ?_;intro E hE
  refine ww ?_
  refine qAa rfl (fun c1=>?_) (fun c1=>?_)
  ·refine ww ?_
   exact wwr
  ·rw [hrl] at c1
   simp at c1
   omega
 ·rw [if_neg h0]
  have hs:=qRs r (by omega)
  have hj:=qRe [1] (qBr 6 0++qBr 2 r.length++r++List.replicate (256-r.length) 0) (by simp only [List.length_append,octB_length,List.length_replicate,List.length_cons,List.length_nil];omega)
  rw [← image0] at hj
  generalize qAg (qBr 6 0++qBr 2 r.length++r++List.replicate (256-r.length) 0)=sb at hs hj
  generalize qAg (qBv 0 r)=im at hj ⊢
  have e1:qAg [1]=[[.int .u8 1]]:=rfl
  rw [e1] at hj
  refine qAb hT Tryz.func45 rfl rfl rfl rfl ?_;intro E hE
  refine wwn ?_
  refine qAa rfl (fun c1=>?_) (fun c1=>?_)
  ·rw [hrl] at c1
   simp at c1
   omega
  refine wwn ?_
  refine qAy (fun i=>bif Nat.beq i 7 then [0] else []) (fun i=>bif Nat.beq i 7 then [0] else []) mixed (by kernel_rfl) ?_
  refine qAm (os:=[]) (fun k hk1 hk2=>buildSl_ok hT rfl rfl) rfl ?_
  refine wwg ?_
  refine wwdc hs ?_
  refine wwdc hj ?_
  refine qAm (os:=[]) (fun k hk1 hk2=>makeDat_ok (n:=265) (z:=.int .u8 0) hT rfl rfl rfl rfl (by decide) (by decide)) rfl ?_
  rw [qXn]
  generalize qAg (List.replicate 265 0)=ze
  refine wwg ?_
  refine ww ?_
  exact wwr
theorem qNj (a b:List UInt8) (ha:a.length≤1000000000) (hb:b.length≤1000000000):Spec Tryz.prog 52 [.agg [.d (.sl 1 (qAg a)),.d (.sl 1 (qAg b))],.agg [.d (.sl 1 (qAg a)),.d (.sl 1 (qAg b))]] [] (fun r h'=>r=.d (.bool true)∧h'=[]):=by
 have h1:=qBi a ha
 have h2:=qBi b hb
 refine qAb hT Tryz.func52 rfl rfl rfl rfl ?_;intro E hE
 refine ww ?_
 first | refine qAe (qAd (arrPtr_ok hT rfl rfl rfl rfl (by decide))) rfl ?_ | refine qBh (qAd (arrPtr_ok hT rfl rfl rfl rfl (by decide))) rfl rfl ?_
 refine ww ?_
 first | refine qAe (qAd (arrPtr_ok hT rfl rfl rfl rfl (by decide))) rfl ?_ | refine qBh (qAd (arrPtr_ok hT rfl rfl rfl rfl (by decide))) rfl rfl ?_
 refine ww ?_
 refine wwc h1 ?_
 refine ww ?_
 refine qEc rfl rfl rfl (fun hg=>⟨(sg (C:=True) hg).1,qAd (arrPtr_ok hT rfl rfl rfl rfl (by decide))⟩) ?_
 refine ww ?_
 refine qEc rfl rfl rfl (fun hg=>⟨(sg (C:=True) hg).1,qAd (arrPtr_ok hT rfl rfl rfl rfl (by decide))⟩) ?_
 refine ww ?_
 refine wwgc h2 ?_
 refine ww ?_
 exact wwr
abbrev sesCells (e c:List UInt8) (n:Int):List AV:=[.d (.sl 1 (qAg e)),.d (.sl 1 (qAg c)),.I n]
abbrev comCells (cl ins p1 p2:Int) (b:List UInt8) (ex:Int):List AV:=[.I cl,.I ins,.I p1,.I p2,.d (.sl 1 (qAg b)),.I ex]
abbrev excCells (k:Int) (s:List UInt8) (pr st:Int) (nc:List UInt8) (a b c d:Int) (e ch:List UInt8) (n:Int):List AV:=[.I k,.d (.sl 1 (qAg s)),.I pr,.I st,.d (.sl 1 (qAg nc)),.I a,.I b,.I c,.I d]++sesCells e ch n
theorem qIg (e c:List UInt8) (n:Int) (he:e.length≤1000000000) (hc:c.length≤1000000000):Spec Tryz.prog 53 [.agg (sesCells e c n),.agg (sesCells e c n)] [] (fun r h'=>r=.d (.bool true)∧h'=[]):=by
 have h1:=qBi e he
 have h2:=qBi c hc
 refine qAb hT Tryz.func53 rfl rfl rfl rfl ?_;intro E hE
 refine ww ?_
 refine wwgc h1 ?_
 refine ww ?_
 refine wwgc h2 ?_
 refine ww ?_
 refine rq ⟨rfl,rfl⟩ rfl (.bool ?_)
 simp
theorem qNl (cl ins p1 p2:Int) (b:List UInt8) (ex:Int) (hb:b.length≤1000000000):Spec Tryz.prog 55 [.agg (comCells cl ins p1 p2 b ex),.agg (comCells cl ins p1 p2 b ex)] [] (fun r h'=>r=.d (.bool true)∧h'=[]):=by
 have h1:=qBi b hb
 refine qAb hT Tryz.func55 rfl rfl rfl rfl ?_;intro E hE
 refine ww ?_
 refine wwgc h1 ?_
 refine ww ?_
 refine rq ⟨rfl,rfl⟩ rfl (.bool ?_)
 simp
theorem qNk (k:Int) (s:List UInt8) (pr st:Int) (nc:List UInt8) (a b c d:Int) (e ch:List UInt8) (n:Int) (hs:s.length≤1000000000) (hnc:nc.length≤1000000000) (he:e.length≤1000000000) (hc:ch.length≤1000000000) :
  Spec Tryz.prog 54 [.agg (excCells k s pr st nc a b c d e ch n),.agg (excCells k s pr st nc a b c d e ch n)] [] (fun r h'=>r=.d (.bool true)∧h'=[]):=by
 have h1:=qBi s hs
 have h2:=qBi nc hnc
 have h3:=qIg e ch n he hc
 refine qAb hT Tryz.func54 rfl rfl rfl rfl ?_;intro E hE
 refine ww ?_
 refine wwgc h1 ?_
 refine ww ?_
 refine wwgc h2 ?_
 refine ww ?_
 refine wwgc h3 ?_
 refine ww ?_
 refine rq ⟨rfl,rfl⟩ rfl (.bool ?_)
 simp
def chG (p:Per) (m0 m1 seed:List UInt8) (on:Bool) (pa pf:Int) (nonce:List UInt8):List AV :=
 qBj p++[.d (.sl 1 (qAg m0)),.d (.sl 1 (qAg m1)),.d (.sl 1 (qAg seed)),.d (.bool on),.I pa,.I pf,.I 0,.d (.bool false),.d (.bool false),.d (.bool false),.I 0,.d (.bool false)]++sesCells [] [] 0++[.I 0,.I 0]
  ++ excCells 0 [] 0 0 [] 0 0 0 0 [] [] 0++[.d (.sl 1 (qAg nonce)),.d (.str []),.I 0,.I 0,.I 0,.I 0,.I 0,.d (.sl 1 (qAg [])),.d (.bool false)]++comCells 0 0 0 0 [] 0
theorem qIf (p q:Per) (m0 m1 seed:List UInt8) (on:Bool) (pa pf:Int) (nonce:List UInt8) (h0:m0.length≤1000000000) (h1:m1.length≤1000000000) (h2:seed.length≤1000000000) (h3:nonce.length≤1000000000) :
  Spec Tryz.prog 23 [.agg (chG p m0 m1 seed on pa pf nonce),.agg (chG q m0 m1 seed on pa pf nonce)] [] (fun r h'=>r=.d (.bool true)∧h'=[]):=by
 have s0:=qNj m0 m1 h0 h1
 have s1:=qBi seed h2
 have s2:=qIg [] [] 0 (by simp) (by simp)
 have s3:=qNk 0 [] 0 0 [] 0 0 0 0 [] [] 0 (by simp) (by simp) (by simp) (by simp)
 have s4:=qBi nonce h3
 have s5:=qBi [] (by simp)
 have s6:=qNl 0 0 0 0 [] 0 (by simp)
 refine qAb hT Tryz.func23 rfl rfl rfl rfl ?_;intro E hE
 refine qAi (qAi ?_)
 refine qAl (qAh ?_)
 refine qAe (boxAt_ok (i0:=0) (cs:=chG p m0 m1 seed on pa pf nonce) rfl rfl rfl) rfl ?_
 refine qAe (boxAt_ok (i0:=1) (cs:=chG q m0 m1 seed on pa pf nonce) rfl rfl rfl) rfl ?_
 refine ww ?_
 refine wwc s0 ?_
 refine ww ?_
 refine wwgc s1 ?_
 refine ww ?_
 refine qEc rfl rfl rfl (fun hg=>⟨(sg (C:=True) hg).1,qAd (structSelfF_ok (ds:=[.int .i64 pa,.int .i64 pf]) [.int .i64,.int .i64] rfl (by kernel_rfl) (by kernel_rfl) (by kernel_rfl) (by kernel_rfl) rfl rfl rfl)⟩) ?_
 refine ww ?_
 refine qEc rfl rfl rfl (fun hg=>⟨(sg (C:=True) hg).1,qAd (structSelfF_ok (ds:=[.int .i64 0,.bool false,.bool false,.bool false,.int .i64 0]) [.int .i64,.bool,.bool,.bool,.int .i64] rfl (by kernel_rfl) (by kernel_rfl) (by kernel_rfl) (by kernel_rfl) rfl rfl rfl)⟩) ?_
 refine ww ?_
 refine wwgc s2 ?_
 refine ww ?_
 refine wwgc s3 ?_
 refine ww ?_
 refine wwgc s4 ?_
 refine ww ?_
 refine qEc rfl rfl rfl (fun hg=>⟨(sg (C:=True) hg).1,qAd (structSelfF_ok (ds:=[.str [],.int .i64 0,.int .i64 0,.int .i64 0,.int .i64 0,.int .i64 0]) [.str,.int .i64,.int .i64,.int .i64,.int .i64,.int .i64] rfl (by kernel_rfl) (by kernel_rfl) (by kernel_rfl) (by kernel_rfl) rfl rfl rfl)⟩) ?_
 refine ww ?_
 refine wwgc s5 ?_
 refine ww ?_
 refine wwgc s6 ?_
 refine ww ?_
 refine rq ⟨rfl,rfl⟩ rfl (.bool ?_)
 simp
theorem cloneSes_spec (e c:List UInt8) (n:Int) (he:e.length≤1000000) (hc:c.length≤1000000):Spec Tryz.prog 100 [.agg (sesCells e c n)] [] (fun r h'=>r=.agg (sesCells e c n)∧h'=[]):=by
 have h1:=qBc (qAg e) (by rw [encB_length];exact he)
 have h2:=qBc (qAg c) (by rw [encB_length];exact hc)
 refine qAb hT Tryz.func100 rfl rfl rfl rfl ?_;intro E hE
 refine wwn ?_
 refine qAy (fun i=>bif Nat.beq i 1||Nat.beq i 4||Nat.beq i 7||Nat.beq i 9 then [0] else []) (fun i=>bif Nat.beq i 7||Nat.beq i 9 then [0] else []) mixed (by kernel_rfl) ?_
 refine wwg ?_
 refine wwdc h1 ?_
 refine wwg ?_
 refine wwdc h2 ?_
 refine wwg ?_
 refine ww ?_
 exact wwr
theorem cloneCom_spec (cl ins p1 p2:Int) (b:List UInt8) (ex:Int) (hb:b.length≤1000000):Spec Tryz.prog 101 [.agg (comCells cl ins p1 p2 b ex)] [] (fun r h'=>r=.agg (comCells cl ins p1 p2 b ex)∧h'=[]):=by
 have h1:=qBc (qAg b) (by rw [encB_length];exact hb)
 refine qAb hT Tryz.func101 rfl rfl rfl rfl ?_;intro E hE
 refine ww ?_
 refine wwc h1 ?_
 refine ww ?_
 exact wwr
theorem chC_leG (p:Per) (a b:List UInt8):AV.le (.agg (chC p (qAg a) (qAg b))) (.agg (chG p a b p.seed false 0 0 [])):=by
 refine AV.le.agg ?_
 unfold chC chG
 exact ⟨.refl _,.refl _,.refl _,.refl _,.refl _,.refl _,.refl _,.refl _,.refl _,.refl _,.refl _,.refl _,.refl _,.refl _,.refl _,.refl _,
  .refl _,.refl _,.refl _,.refl _,.refl _,.refl _,.refl _,.refl _,.refl _,.refl _,.refl _,.refl _,.dat,.dat,.refl _,.refl _,.refl _,.refl _,.dat,.refl _,.refl _,.dat,.refl _,.refl _,.refl _,.refl _,.dat,.dat,.refl _,
  .dat,.refl _,.refl _,.refl _,.refl _,.refl _,.refl _,.dat,.refl _,.refl _,.refl _,.refl _,.refl _,.dat,.refl _,trivial⟩
theorem qYn {C rest:List AV} (p:Per) (h:C=qBj p++rest):qGp T 50 C 0=some (qBw p):=by
 refine loadA_agg (i:=(T.find 50).getD ⟨.str,0,0,[]⟩) rfl rfl ?_ ?_
 ·rw [h,List.length_append]
  exact Nat.le_add_right 16 _
 ·rw [h];rfl
theorem chG_cut (p:Per) (m0 m1 seed:List UInt8) (on:Bool) (pa pf:Int) (nonce:List UInt8):∃ rest,chG p m0 m1 seed on pa pf nonce=qBj p++rest:=by
 unfold chG
 simp only [List.append_assoc]
 exact ⟨_,rfl⟩
theorem qUl (p:Per) (m0 m1:List UInt8) (on:Bool) (pa pf:Int) (nonce:List UInt8) :
  Spec Tryz.prog 58 [.agg (chG p m0 m1 p.seed on pa pf nonce)] [] (fun r h'=>r=.agg (chG p m0 m1 p.seed false 0 0 [])∧h'=[]):=by
 have hle:=chC_leG p m0 m1
 obtain ⟨rest,hrest⟩:=chG_cut p m0 m1 p.seed on pa pf nonce
 have hL:=qYn p hrest
 refine qAb hT Tryz.func58 rfl rfl rfl rfl ?_;intro E hE
 refine qAi (qAi ?_)
 refine qAl (qAh ?_)
 refine qAe (boxAt_ok (i0:=0) (cs:=chG p m0 m1 p.seed on pa pf nonce) rfl rfl rfl) rfl ?_
 refine qAe (allocAt_ok (i0:=1) (i:=tiC) hT rfl tiC_find rfl) rfl ?_
 refine wws ?_
 refine qAl (qAh ?_)
 refine wk hT rfl rfl ?_
 refine qAe (qBg (i:=0) (off:=0) hT rfl rfl rfl hL) rfl ?_
 refine wk hT rfl rfl ?_
 refine wk hT rfl rfl ?_
 refine wk hT rfl rfl ?_
 refine wk hT rfl rfl ?_
 refine qAe (qAd (qDe hT rfl (qOa p (qAg m0) (qAg m1)))) rfl ?_
 refine qBb (qAz (i:=1) (off:=0) hT rfl rfl rfl (S60 (C:=chC p (qAg m0) (qAg m1)) rfl rfl)) (forceS_eq _ _) ?_
 refine ww ?_
 refine rq ⟨rfl,rfl⟩ rfl hle
def qYk (p:Per) (m0 m1:List (List Dat)):List AV:=qBj p++[.d (.sl 1 m0),.d (.sl 1 m1),.d (.sl 1 (qAg p.seed)),.d (.bool true),.d (.int .i64 (-1)),.d (.int .i64 (-1))]++chOff.drop 3
theorem chPw_le (p:Per) (a b:List UInt8):AV.le (.agg (qYk p (qAg a) (qAg b))) (.agg (chG p a b p.seed true (-1) (-1) [])):=by
 refine AV.le.agg ?_
 unfold qYk chG
 exact ⟨.refl _,.refl _,.refl _,.refl _,.refl _,.refl _,.refl _,.refl _,.refl _,.refl _,.refl _,.refl _,.refl _,.refl _,.refl _,.refl _,
  .refl _,.refl _,.refl _,.refl _,.refl _,.refl _,.refl _,.refl _,.refl _,.refl _,.refl _,.refl _,.dat,.dat,.refl _,.refl _,.refl _,.refl _,.dat,.refl _,.refl _,.dat,.refl _,.refl _,.refl _,.refl _,.dat,.dat,.refl _,
  .dat,.refl _,.refl _,.refl _,.refl _,.refl _,.refl _,.dat,.refl _,.refl _,.refl _,.refl _,.refl _,.dat,.refl _,trivial⟩
theorem qSy (p:Per) (m0 m1:List (List Dat)):qHf T 71 [(0,qBw p),(1,.agg [.d (.sl 1 m0),.d (.sl 1 m1)]),(2,.d (.sl 1 (qAg p.seed))),(3,.d (.bool true)),(4,.agg [.I (-1),.I (-1)])]=some (.agg (qYk p m0 m1)):=by
 kernel_rfl
theorem qLv (p:Per) (m0 m1:List UInt8) (on:Bool) (pa pf:Int) (nonce:List UInt8) :
  Spec Tryz.prog 27 [.agg (chG p m0 m1 p.seed on pa pf nonce)] [] (fun r h'=>r=.agg (chG p m0 m1 p.seed true (-1) (-1) [])∧h'=[]):=by
 have hle:=chPw_le p m0 m1
 obtain ⟨rest,hrest⟩:=chG_cut p m0 m1 p.seed on pa pf nonce
 have hL:=qYn p hrest
 refine qAb hT Tryz.func27 rfl rfl rfl rfl ?_;intro E hE
 refine qAi (qAi ?_)
 refine qAl (qAh ?_)
 refine qAe (boxAt_ok (i0:=0) (cs:=chG p m0 m1 p.seed on pa pf nonce) rfl rfl rfl) rfl ?_
 refine qAe (allocAt_ok (i0:=1) (i:=tiC) hT rfl tiC_find rfl) rfl ?_
 refine wws ?_
 refine qAl (qAh ?_)
 refine wk hT rfl rfl ?_
 refine qAe (qBg (i:=0) (off:=0) hT rfl rfl rfl hL) rfl ?_
 refine wk hT rfl rfl ?_
 refine wk hT rfl rfl ?_
 refine wk hT rfl rfl ?_
 refine wk hT rfl rfl ?_
 refine wk hT rfl rfl ?_
 refine qAe (qAd (qDe hT rfl (qSy p (qAg m0) (qAg m1)))) rfl ?_
 refine qBb (qAz (i:=1) (off:=0) hT rfl rfl rfl (S60 (C:=qYk p (qAg m0) (qAg m1)) rfl rfl)) (forceS_eq _ _) ?_
 refine ww ?_
 refine rq ⟨rfl,rfl⟩ rfl hle
theorem qIi (k:Int):Spec Tryz.prog 40 [.I k] [] (fun r h'=>r=.I (qNo k)∧h'=[]):=by
 have h:=qMw k
 generalize qNo k=x at h ⊢
 refine qAb hT Tryz.func40 rfl rfl rfl rfl ?_;intro E hE
 refine ww ?_
 refine wwc h ?_
 refine ww ?_
 exact wwr
def qLk:List UInt8:=[76,56,57,56,57,48,50,67,60,51,54,57,48,56,48,54,49,57,52,48,54,50,51,54]
def qJl (k:Int):List Inf:=[⟨2,2,12,0,0⟩,⟨3,2,0,0,0⟩,⟨4,1,0,k,1⟩,⟨5,1,0,0,0⟩]
structure MkV where
 root:List Fil
 apps:List Apk
 b0:List UInt8
 b1:List UInt8
 b2:List UInt8
 b3:List UInt8
 b4:List UInt8
 b5:List UInt8
 v1:Int
 v2:Int
 o:Int
 c:Int
 rg:Int
 tl:Int
 dt:Int
 sd:List UInt8
def qCr (x:MkV):List Fil:=x.root++[⟨284,28,x.b0,0,0⟩]
def qVr (x:MkV):Apk:=⟨[160,0,0],[⟨257,1,x.b1++[1],1,0⟩,⟨259,3,x.b2++[3],3,0⟩,⟨260,4,x.b3++[4],3,1⟩,⟨270,14,x.b4++[14],2,0⟩,⟨286,30,x.b5,0,0⟩]⟩
def qFg (x:MkV):List Apk:=qVr x::x.apps
def qZc (x:MkV):Tp:=⟨[82,79,79,84,49],qNo 1001,1+x.rg,100,20000+x.tl*20000⟩
def qFa (x:MkV):Per :=
 ⟨qCr x,qFg x,if x.c=1 then [] else qLk,[49,50,51,52,53,54],if x.c=2 then [] else [49,50,51,52,53],if x.c=2 then [] else [57,57,57,57],1+x.v1,1+x.v2,!(decide (x.o=3)),
  if x.c=4 then (qJl (qNo 505)).drop 1 else qJl (qNo 505),if x.c=3 then 0 else 505,if x.c=3 then 0 else 606,[qZc x],x.dt,[76,56,57,56,57,48,50,67,60],x.sd⟩
def qUg (p:Per):List AV:=[.d (.sl 5 (qAc p.root)),.d (.sl 2 (qAf p.apps)),.d (.str p.zone),.d (.sl 1 (qAg p.number)),.d (.sl 1 (qAg p.pin)),.d (.sl 1 (qAg p.puk)),.d (.int .i64 p.pr),.d (.int .i64 p.ur),.d (.bool p.basic),.d (.sl 5 (qAt p.infos)),
 .I p.ck,.I p.ak,.sl 5 (qAp p.tps) .full,.I p.tday,.d (.sl 1 (qAg p.ident)),.d (.sl 1 (qAg p.seed))]
theorem perT_le (p:Per):AV.le (.agg (qUg p)) (qBw p) :=
 AV.le.agg ⟨.refl _,.refl _,.refl _,.refl _,.refl _,.refl _,.refl _,.refl _,.refl _,.refl _,.refl _,.refl _,.dat,.refl _,.refl _,.refl _,trivial⟩
theorem L16 {C:List AV} (h:C.length=16):qGp T 50 C 0=some (.agg C) :=
 loadA_agg (i:=(T.find 50).getD ⟨.str,0,0,[]⟩) rfl rfl (by rw [h];exact Nat.le_refl _) (List.take_of_length_le (by rw [List.length_drop,h];exact Nat.le_refl _))
theorem S16 {C D:List AV} (h1:D.length=16) (h2:C.length=16):qFe T 50 D 0 (.agg C)=some C :=
 storeA_agg (i:=(T.find 50).getD ⟨.str,0,0,[]⟩) rfl h2 (by rw [h1];exact Nat.le_refl _) (setRun_full (by rw [h1,h2]))
structure MkS (L:List Int) (a:Nat) (x:MkV) (e:Nat):Prop where
 st:∃ a1 a2 a3 a4 a5 a6 a7 a8 a9 a10 a11 a12 a13 a14:Nat,
  Spec Tryz.prog 39 [.ptr 0 0] [.row (qAk L a),.room] (fun r h'=>r=.agg [.sl 5 (qAc x.root) (.right 1),.d (.sl 2 (qAf x.apps))]∧h'=[.row (qAk L a1),.right 5 (qAc x.root).length]) ∧
  Spec Tryz.prog 31 [.ptr 0 0,.I 20] [.row (qAk L a1)] (fun r h'=>r=.d (.sl 1 (qAg x.b0))∧h'=[.row (qAk L a2)]) ∧
  Spec Tryz.prog 31 [.ptr 0 0,.I 30] [.row (qAk L a2),.room] (fun r h'=>r=.sl 1 (qAg x.b1) (.right 1)∧h'=[.row (qAk L a3),.right 1 (qAg x.b1).length]) ∧
  Spec Tryz.prog 31 [.ptr 0 0,.I 30] [.row (qAk L a3),.room] (fun r h'=>r=.sl 1 (qAg x.b2) (.right 1)∧h'=[.row (qAk L a4),.right 1 (qAg x.b2).length]) ∧
  Spec Tryz.prog 31 [.ptr 0 0,.I 30] [.row (qAk L a4),.room] (fun r h'=>r=.sl 1 (qAg x.b3) (.right 1)∧h'=[.row (qAk L a5),.right 1 (qAg x.b3).length]) ∧
  Spec Tryz.prog 31 [.ptr 0 0,.I 30] [.row (qAk L a5),.room] (fun r h'=>r=.sl 1 (qAg x.b4) (.right 1)∧h'=[.row (qAk L a6),.right 1 (qAg x.b4).length]) ∧
  Spec Tryz.prog 31 [.ptr 0 0,.I 9] [.row (qAk L a6)] (fun r h'=>r=.d (.sl 1 (qAg x.b5))∧h'=[.row (qAk L a7)]) ∧
  Spec Tryz.prog 30 [.ptr 0 0,.I 4] [.row (qAk L a7)] (fun r h'=>r=.I x.v1∧h'=[.row (qAk L a8)]) ∧
  Spec Tryz.prog 30 [.ptr 0 0,.I 3] [.row (qAk L a8)] (fun r h'=>r=.I x.v2∧h'=[.row (qAk L a9)]) ∧
  Spec Tryz.prog 8 [.ptr 0 0,.I 4] [.row (qAk L a9)] (fun r h'=>r=.d (.bool (decide (x.o=3)))∧h'=[.row (qAk L a10)]) ∧
  Spec Tryz.prog 30 [.ptr 0 0,.I 8] [.row (qAk L a10)] (fun r h'=>r=.I x.c∧h'=[.row (qAk L a11)]) ∧
  Spec Tryz.prog 30 [.ptr 0 0,.I 7] [.row (qAk L a11)] (fun r h'=>r=.I x.rg∧h'=[.row (qAk L a12)]) ∧
  Spec Tryz.prog 30 [.ptr 0 0,.I 2] [.row (qAk L a12)] (fun r h'=>r=.I x.tl∧h'=[.row (qAk L a13)]) ∧
  Spec Tryz.prog 30 [.ptr 0 0,.I 300] [.row (qAk L a13)] (fun r h'=>r=.I x.dt∧h'=[.row (qAk L a14)]) ∧
  Spec Tryz.prog 31 [.ptr 0 0,.I 8] [.row (qAk L a14)] (fun r h'=>r=.d (.sl 1 (qAg x.sd))∧h'=[.row (qAk L e)])
 root:x.root.length≤4
 apps:x.apps.length≤2
 l1:x.b1.length≤30
 l2:x.b2.length≤30
 l3:x.b3.length≤30
 l4:x.b4.length≤30
 v1:0≤x.v1∧x.v1 < 4
 v2:0≤x.v2∧x.v2 < 3
 rg:0≤x.rg∧x.rg < 7
 tl:0≤x.tl∧x.tl < 2
def mkT:List AV:=[.d (.str qLk),.sl 1 (qAg [49,50,51,52,53,54]) .full,.sl 1 (qAg [49,50,51,52,53]) .full,.sl 1 (qAg [57,57,57,57]) .full,.d (.int .i64 0),.d (.int .i64 0),.d (.bool false),.sl 5 [] .full,
 .I 0,.I 0,.sl 5 [] .full,.I 0,.sl 1 [] .full,.sl 1 [] .full]
def qYh (R A:List (List Dat)):List AV:=.sl 5 R (.right 2)::.d (.sl 2 A)::mkT
theorem mkB (R A:List (List Dat)):qHf T 50 [(0,.agg [.sl 5 R (.right 2),.d (.sl 2 A)]),(1,.d (.str qLk)),(2,.sl 1 (qAg [49,50,51,52,53,54]) .full),(3,.sl 1 (qAg [49,50,51,52,53]) .full),(4,.sl 1 (qAg [57,57,57,57]) .full)]=some (.agg (qYh R A)):=by
 kernel_rfl
theorem qMb (L:List Int) (a e:Nat) (x:MkV) (hx:MkS L a x e) :
  Spec Tryz.prog 17 [.ptr 0 0] [.row (qAk L a)] (fun r h'=>r=.agg (qUg (qFa x))∧h'=[.row (qAk L e)]):=by
 obtain ⟨⟨a1,a2,a3,a4,a5,a6,a7,a8,a9,a10,a11,a12,a13,a14,s1,s2,s3,s4,s5,s6,s7,s8,s9,s10,s11,s12,s13,s14,s15⟩,n1,n2,n3,n4,n5,n6,n7,n8,n9,n10⟩:=hx
 have p1:=qIi 505
 have p2:=qIi 1001
 have w1:IntKind.i64.wrap (1+x.v1)=1+x.v1:=qAj (by omega)
 have w2:IntKind.i64.wrap (1+x.v2)=1+x.v2:=qAj (by omega)
 have w3:IntKind.i64.wrap (1+x.rg)=1+x.rg:=qAj (by omega)
 have w4:IntKind.i64.wrap (x.tl*20000)=x.tl*20000:=qAj (by omega)
 have w5:IntKind.i64.wrap (20000+x.tl*20000)=20000+x.tl*20000:=qAj (by omega)
 have g0:=encFils_length x.root
 have g1:=encB_length x.b1
 have g2:=encB_length x.b2
 have g3:=encB_length x.b3
 have g4:=encB_length x.b4
 have g5:=encApks_length x.apps
 have hroot:qAc (qCr x)=qAc x.root++[[.int .i64 284,.int .i64 28,.sl 1 (qAg x.b0),.int .i64 0,.int .i64 0]]:=by simp [qCr,qAc,qCs]
 refine qAb hT Tryz.func17 rfl rfl rfl rfl ?_;intro E hE
 refine qAi (qAi (qAi (qAi (qAi (qAi (qAi (qAi (qAi (qAi (qAi ?_))))))))))
 refine qAl (qAh ?_)
 refine qAe (allocAt_ok (i0:=1) (i:=(T.find 50).getD ⟨.str,0,0,[]⟩) hT rfl rfl rfl) rfl ?_
 refine wws ?_
 refine qAl (qAh ?_)
 refine wk hT rfl rfl ?_
 refine qAe (qBn (v:=.agg [.sl 5 (qAc x.root) (.right 2),.d (.sl 2 (qAf x.apps))]) (H':=[.row (qAk L a1),.row qFu,.right 5 (qAc x.root).length,.room,.room,.room,.room,.room,.room,.room,.room,.room]) rfl rfl s1 [0,2] (by decide) rfl rfl rfl rfl rfl rfl rfl) rfl ?_
 refine qAe (buildCB_ok (i0:=8) (s:=[49,50,51,52,53,54]) hT rfl rfl rfl) rfl ?_
 refine qAe (markCB_ok hT rfl rfl rfl rfl rfl) rfl ?_
 refine qAe (buildCB_ok (i0:=9) (s:=[49,50,51,52,53]) hT rfl rfl rfl) rfl ?_
 refine qAe (markCB_ok hT rfl rfl rfl rfl rfl) rfl ?_
 refine qAe (buildCB_ok (i0:=10) (s:=[57,57,57,57]) hT rfl rfl rfl) rfl ?_
 refine qAe (markCB_ok hT rfl rfl rfl rfl rfl) rfl ?_
 refine qAe (qAd (qDe hT rfl (mkB _ _))) rfl ?_
 refine qAe (allocAt_ok (i0:=7) (i:=(T.find 50).getD ⟨.str,0,0,[]⟩) hT rfl rfl rfl) rfl ?_
 refine qBb (qAz (i:=7) (off:=0) hT rfl rfl rfl (S16 (C:=qYh (qAc x.root) (qAf x.apps)) rfl rfl)) (forceS_eq _ _) ?_
 refine qBm ?_
 refine qAs (l:=[(0,.ptr 0 0),(2,.ptr 1 0),(3,.ptr 7 0)]) (h':=[.row (qAk L a1),.row qFu,.right 5 (qAc x.root).length,.room,.room,.room,.room,.row (qYh (qAc x.root) (qAf x.apps)),.dead,.dead,.dead,.room]) yf (HLe.refl _) ?_
 unfold qYh
 refine qAl (qAy (fun i=>bif Nat.beq i 2 then [7] else bif Nat.beq i 4 then [0] else bif Nat.beq i 7 then [2] else bif Nat.beq i 10 then [7] else []) (fun i=>bif Nat.beq i 4 then [0] else bif Nat.beq i 7 then [2] else bif Nat.beq i 10 then [7] else []) mixed (by kernel_rfl) ?_)
 refine wwg ?_
 refine qAm (v:=.d (.sl 1 (qAg x.b0))) (os:=[.row (qAk L a2)]) (fun k hk1 hk2=>qAr rfl rfl s2 [0] (by decide) (by show [k[0]?]=[some _];rw [hk2 0 List.mem_cons_self];rfl) rfl rfl rfl rfl rfl rfl) rfl ?_
 refine wwg ?_
 refine qAm (os:=[]) (fun k hk1 hk2=>buildSl_ok hT rfl rfl) rfl ?_
 refine qAm (v:=.sl 5 (qAc (qCr x)) (.right 2)) (os:=[.right 5 (qAc (qCr x)).length]) (fun k hk1 hk2=>by rw [hroot];exact qAn (i:=2) hT rfl rfl rfl rfl ((hk2 2 List.mem_cons_self).trans rfl) rfl (by show ((qAc x.root).length+1)*(56+1)≤_;omega)) rfl ?_
 refine wwg ?_
 refine qAs (l:=[(0,.ptr 0 0),(2,.ptr 1 0),(3,.ptr 7 0)]) (h':=[.row (qAk L a2),.row qFu,.right 5 (qAc (qCr x)).length,.room,.room,.room,.room,.row (.sl 5 (qAc (qCr x)) (.right 2)::.d (.sl 2 (qAf x.apps))::mkT),.dead,.dead,.dead,.room]) yf (HLe.refl _) ?_
 generalize hR:qAc (qCr x)=R
 refine qAl (qAy (fun i=>bif Nat.beq i 2 then [0,3] else bif Nat.beq i 4 then [3] else bif Nat.beq i 8 then [0,4] else bif Nat.beq i 10 then [4] else bif Nat.beq i 14 then [0,5] else bif Nat.beq i 16 then [5] else bif Nat.beq i 20 then [0,6] else bif Nat.beq i 22 then [6] else bif Nat.beq i 26 then [0] else bif Nat.beq i 33 then [7] else bif Nat.beq i 37 then [7] else []) (fun i=>bif Nat.beq i 2 then [0,3] else bif Nat.beq i 4 then [3] else bif Nat.beq i 8 then [0,4] else bif Nat.beq i 10 then [4] else bif Nat.beq i 14 then [0,5] else bif Nat.beq i 16 then [5] else bif Nat.beq i 20 then [0,6] else bif Nat.beq i 22 then [6] else bif Nat.beq i 26 then [0] else bif Nat.beq i 37 then [7] else []) mixed (by kernel_rfl) ?_)
 refine qAm (os:=[]) (fun k hk1 hk2=>buildSl_ok hT rfl rfl) rfl ?_
 refine wwg ?_
 refine qAm (v:=.sl 1 (qAg x.b1) (.right 3)) (os:=[.row (qAk L a3),.right 1 (qAg x.b1).length]) (fun k hk1 hk2=>qBn rfl rfl s3 [0,3] (by decide) (by show [k[0]?,k[3]?]=[some _,some _];rw [hk2 0 List.mem_cons_self,hk2 3 (List.mem_cons_of_mem _ List.mem_cons_self)];rfl) rfl rfl rfl rfl rfl rfl) rfl ?_
 refine qAm (os:=[]) (fun k hk1 hk2=>buildSl_ok hT rfl rfl) rfl ?_
 refine qAm (v:=.sl 1 (qAg (x.b1++[1])) (.right 3)) (os:=[.right 1 (qAg (x.b1++[1])).length]) (fun k hk1 hk2=>by rw [show qAg (x.b1++[1])=qAg x.b1++qAg [1] from encB_append _ _];exact qAn (i:=3) hT rfl rfl rfl rfl ((hk2 3 List.mem_cons_self).trans rfl) rfl (by show ((qAg x.b1).length+1)*(1+1)≤_;omega)) rfl ?_
 refine wwg ?_
 refine qAm (v:=.sl 1 (qAg x.b2) (.right 4)) (os:=[.row (qAk L a4),.right 1 (qAg x.b2).length]) (fun k hk1 hk2=>qBn rfl rfl s4 [0,4] (by decide) (by show [k[0]?,k[4]?]=[some _,some _];rw [hk2 0 List.mem_cons_self,hk2 4 (List.mem_cons_of_mem _ List.mem_cons_self)];rfl) rfl rfl rfl rfl rfl rfl) rfl ?_
 refine qAm (os:=[]) (fun k hk1 hk2=>buildSl_ok hT rfl rfl) rfl ?_
 refine qAm (v:=.sl 1 (qAg (x.b2++[3])) (.right 4)) (os:=[.right 1 (qAg (x.b2++[3])).length]) (fun k hk1 hk2=>by rw [show qAg (x.b2++[3])=qAg x.b2++qAg [3] from encB_append _ _];exact qAn (i:=4) hT rfl rfl rfl rfl ((hk2 4 List.mem_cons_self).trans rfl) rfl (by show ((qAg x.b2).length+1)*(1+1)≤_;omega)) rfl ?_
 refine wwg ?_
 refine qAm (v:=.sl 1 (qAg x.b3) (.right 5)) (os:=[.row (qAk L a5),.right 1 (qAg x.b3).length]) (fun k hk1 hk2=>qBn rfl rfl s5 [0,5] (by decide) (by show [k[0]?,k[5]?]=[some _,some _];rw [hk2 0 List.mem_cons_self,hk2 5 (List.mem_cons_of_mem _ List.mem_cons_self)];rfl) rfl rfl rfl rfl rfl rfl) rfl ?_
 refine qAm (os:=[]) (fun k hk1 hk2=>buildSl_ok hT rfl rfl) rfl ?_
 refine qAm (v:=.sl 1 (qAg (x.b3++[4])) (.right 5)) (os:=[.right 1 (qAg (x.b3++[4])).length]) (fun k hk1 hk2=>by rw [show qAg (x.b3++[4])=qAg x.b3++qAg [4] from encB_append _ _];exact qAn (i:=5) hT rfl rfl rfl rfl ((hk2 5 List.mem_cons_self).trans rfl) rfl (by show ((qAg x.b3).length+1)*(1+1)≤_;omega)) rfl ?_
 refine wwg ?_
 refine qAm (v:=.sl 1 (qAg x.b4) (.right 6)) (os:=[.row (qAk L a6),.right 1 (qAg x.b4).length]) (fun k hk1 hk2=>qBn rfl rfl s6 [0,6] (by decide) (by show [k[0]?,k[6]?]=[some _,some _];rw [hk2 0 List.mem_cons_self,hk2 6 (List.mem_cons_of_mem _ List.mem_cons_self)];rfl) rfl rfl rfl rfl rfl rfl) rfl ?_
 refine qAm (os:=[]) (fun k hk1 hk2=>buildSl_ok hT rfl rfl) rfl ?_
 refine qAm (v:=.sl 1 (qAg (x.b4++[14])) (.right 6)) (os:=[.right 1 (qAg (x.b4++[14])).length]) (fun k hk1 hk2=>by rw [show qAg (x.b4++[14])=qAg x.b4++qAg [14] from encB_append _ _];exact qAn (i:=6) hT rfl rfl rfl rfl ((hk2 6 List.mem_cons_self).trans rfl) rfl (by show ((qAg x.b4).length+1)*(1+1)≤_;omega)) rfl ?_
 refine wwg ?_
 refine qAm (v:=.d (.sl 1 (qAg x.b5))) (os:=[.row (qAk L a7)]) (fun k hk1 hk2=>qAr rfl rfl s7 [0] (by decide) (by show [k[0]?]=[some _];rw [hk2 0 List.mem_cons_self];rfl) rfl rfl rfl rfl rfl rfl) rfl ?_
 refine wwg ?_
 refine qAm (os:=[]) (fun k hk1 hk2=>buildSl_ok hT rfl rfl) rfl ?_
 refine wwg ?_
 refine qAm (os:=[]) (fun k hk1 hk2=>buildSl_ok hT rfl rfl) rfl ?_
 refine wwg ?_
 refine qAm (v:=.d (.sl 2 (qAf (qFg x)))) (os:=[]) (fun k hk1 hk2=>qBe (es:=[qEx (qVr x)]) (es2:=qAf x.apps) hT rfl rfl rfl (.inl rfl) rfl (by show (1+(qAf x.apps).length)*(48+1)≤_;omega)) rfl ?_
 refine wwg ?_
 refine qAs (l:=[(0,.ptr 0 0),(2,.ptr 1 0),(3,.ptr 7 0)]) (h':=[.row (qAk L a7),.row qFu,.dead,.dead,.dead,.dead,.dead,.row (.d (.sl 5 R)::.d (.sl 2 (qAf (qFg x)))::mkT),.dead,.dead,.dead,.room]) yf ⟨ObLe.refl _,ObLe.refl _,trivial,trivial,trivial,trivial,trivial,⟨.dat,.refl _,AllLe.refl _⟩,trivial,trivial,trivial,ObLe.refl _,trivial⟩ ?_
 unfold mkT
 generalize hA:qAf (qFg x)=A
 refine wwn ?_
 refine qAe (qAr rfl rfl (s8) [0] (by decide) rfl rfl rfl rfl rfl rfl rfl) rfl ?_
 refine wwn ?_
 refine qAe (qAr rfl rfl (s9) [0] (by decide) rfl rfl rfl rfl rfl rfl rfl) rfl ?_
 refine wwn ?_
 refine qAe (qAr rfl rfl (s10) [0] (by decide) rfl rfl rfl rfl rfl rfl rfl) rfl ?_
 refine wwn ?_
 refine wwc p1 ?_
 refine wws ?_
 rw [w1,w2]
 obtain ⟨pr,hpr⟩:∃ z,z=1+x.v1:=⟨_,rfl⟩
 obtain ⟨ur,hur⟩:∃ z,z=1+x.v2:=⟨_,rfl⟩
 obtain ⟨ba,hba⟩:∃ z,z=!(decide (x.o=3)):=⟨_,rfl⟩
 obtain ⟨zone,hz⟩:∃ z,z=(qFa x).zone:=⟨_,rfl⟩
 obtain ⟨pin,hpi⟩:∃ z,z=(qFa x).pin:=⟨_,rfl⟩
 obtain ⟨puk,hpu⟩:∃ z,z=(qFa x).puk:=⟨_,rfl⟩
 obtain ⟨ck,hck⟩:∃ z,z=(qFa x).ck:=⟨_,rfl⟩
 obtain ⟨ak,hak⟩:∃ z,z=(qFa x).ak:=⟨_,rfl⟩
 obtain ⟨infs,hin⟩:∃ z,z=(qFa x).infos:=⟨_,rfl⟩
 refine qAs (l:=[(0,.ptr 0 0),(2,.ptr 1 0),(3,.ptr 7 0)]) (h':=[.row (qAk L a10),.row qFu,.dead,.dead,.dead,.dead,.dead,.row [.d (.sl 5 R),.d (.sl 2 A),.d (.str qLk),.d (.sl 1 (qAg [49,50,51,52,53,54])),.d (.sl 1 (qAg [49,50,51,52,53])),.d (.sl 1 (qAg [57,57,57,57])),.I pr,.I ur,.d (.bool ba),.d (.sl 5 (qAt (qJl (qNo 505)))),
  .I 505,.I 606,.sl 5 [] .full,.I 0,.sl 1 [] .full,.sl 1 [] .full],.dead,.dead,.dead,.room]) yf ⟨ObLe.refl _,ObLe.refl _,trivial,trivial,trivial,trivial,trivial,⟨.refl _,.refl _,.refl _,.dat,.dat,.dat,.int hpr.symm,.int hur.symm,.bool hba.symm,.dat,.refl _,.refl _,.refl _,.refl _,.refl _,.refl _,trivial⟩,trivial,trivial,trivial,ObLe.refl _,trivial⟩ ?_
 refine qAl (qJc (Q:=fun e τ h=>e=.normal∧SubL τ [(0,.ptr 0 0),(2,.ptr 1 0),(3,.ptr 7 0)]∧HLe h [.row (qAk L a11),.row qFu,.dead,.dead,.dead,.dead,.dead,.row [.d (.sl 5 R),.d (.sl 2 A),.d (.str zone),.d (.sl 1 (qAg [49,50,51,52,53,54])),.d (.sl 1 (qAg pin)),.d (.sl 1 (qAg puk)),.I pr,.I ur,.d (.bool ba),.d (.sl 5 (qAt infs)),
  .I ck,.I ak,.sl 5 [] .full,.I 0,.sl 1 [] .full,.sl 1 [] .full],.dead,.dead,.dead,.room]) ?_ ?_)
 ·refine wwn ?_
  refine qAe (qAr rfl rfl (s11) [0] (by decide) rfl rfl rfl rfl rfl rfl rfl) rfl ?_
  refine wwn ?_
  refine qAa rfl (fun c1=>?_) (fun c1=>?_)
  ·have d1:x.c=1:=by simpa using c1
   have d2:¬ x.c=2:=by omega
   have d3:¬ x.c=3:=by omega
   have d4:¬ x.c=4:=by omega
   have f_zone:zone=[]:=hz.trans (if_pos d1)
   have f_pin:pin=[49,50,51,52,53]:=hpi.trans (if_neg d2)
   have f_puk:puk=[57,57,57,57]:=hpu.trans (if_neg d2)
   have f_ck:ck=505:=hck.trans (if_neg d3)
   have f_ak:ak=606:=hak.trans (if_neg d3)
   have f_infs:infs=qJl (qNo 505):=hin.trans (if_neg d4)
   rw [f_zone,f_pin,f_puk,f_ck,f_ak,f_infs]
   refine wwn ?_
   refine ⟨rfl,yf,⟨ObLe.refl _,ObLe.refl _,trivial,trivial,trivial,trivial,trivial,⟨?_,?_,?_,?_,?_,?_,?_,?_,?_,?_,?_,?_,?_,?_,?_,?_,trivial⟩,trivial,trivial,trivial,ObLe.refl _,trivial⟩⟩ <;> first | exact .refl _ | exact .dat | exact .nils
  have d1:¬ x.c=1:=by simpa using c1
  refine wwn ?_
  refine qAa rfl (fun c2=>?_) (fun c2=>?_)
  ·have d2:x.c=2:=by simpa using c2
   have d3:¬ x.c=3:=by omega
   have d4:¬ x.c=4:=by omega
   have f_zone:zone=qLk:=hz.trans (if_neg d1)
   have f_pin:pin=[]:=hpi.trans (if_pos d2)
   have f_puk:puk=[]:=hpu.trans (if_pos d2)
   have f_ck:ck=505:=hck.trans (if_neg d3)
   have f_ak:ak=606:=hak.trans (if_neg d3)
   have f_infs:infs=qJl (qNo 505):=hin.trans (if_neg d4)
   rw [f_zone,f_pin,f_puk,f_ck,f_ak,f_infs]
   refine wwn ?_
   refine ⟨rfl,yf,⟨ObLe.refl _,ObLe.refl _,trivial,trivial,trivial,trivial,trivial,⟨?_,?_,?_,?_,?_,?_,?_,?_,?_,?_,?_,?_,?_,?_,?_,?_,trivial⟩,trivial,trivial,trivial,ObLe.refl _,trivial⟩⟩ <;> first | exact .refl _ | exact .dat | exact .nils
  have d2:¬ x.c=2:=by simpa using c2
  refine wwn ?_
  refine qAa rfl (fun c3=>?_) (fun c3=>?_)
  ·have d3:x.c=3:=by simpa using c3
   have d4:¬ x.c=4:=by omega
   have f_zone:zone=qLk:=hz.trans (if_neg d1)
   have f_pin:pin=[49,50,51,52,53]:=hpi.trans (if_neg d2)
   have f_puk:puk=[57,57,57,57]:=hpu.trans (if_neg d2)
   have f_ck:ck=0:=hck.trans (if_pos d3)
   have f_ak:ak=0:=hak.trans (if_pos d3)
   have f_infs:infs=qJl (qNo 505):=hin.trans (if_neg d4)
   rw [f_zone,f_pin,f_puk,f_ck,f_ak,f_infs]
   refine wwn ?_
   refine ⟨rfl,yf,⟨ObLe.refl _,ObLe.refl _,trivial,trivial,trivial,trivial,trivial,⟨?_,?_,?_,?_,?_,?_,?_,?_,?_,?_,?_,?_,?_,?_,?_,?_,trivial⟩,trivial,trivial,trivial,ObLe.refl _,trivial⟩⟩ <;> first | exact .refl _ | exact .dat | exact .nils
  have d3:¬ x.c=3:=by simpa using c3
  refine wwn ?_
  refine qAa rfl (fun c4=>?_) (fun c4=>?_)
  ·have d4:x.c=4:=by simpa using c4
   have f_zone:zone=qLk:=hz.trans (if_neg d1)
   have f_pin:pin=[49,50,51,52,53]:=hpi.trans (if_neg d2)
   have f_puk:puk=[57,57,57,57]:=hpu.trans (if_neg d2)
   have f_ck:ck=505:=hck.trans (if_neg d3)
   have f_ak:ak=606:=hak.trans (if_neg d3)
   have f_infs:infs=(qJl (qNo 505)).drop 1:=hin.trans (if_pos d4)
   rw [f_zone,f_pin,f_puk,f_ck,f_ak,f_infs]
   refine wwn ?_
   refine qBs hT rfl rfl (by decide) ?_
   refine wws ?_
   refine ⟨rfl,yf,⟨ObLe.refl _,ObLe.refl _,trivial,trivial,trivial,trivial,trivial,⟨?_,?_,?_,?_,?_,?_,?_,?_,?_,?_,?_,?_,?_,?_,?_,?_,trivial⟩,trivial,trivial,trivial,ObLe.refl _,trivial⟩⟩ <;> first | exact .refl _ | exact .dat | exact .nils
  have d4:¬ x.c=4:=by simpa using c4
  refine wwn ?_
  have f_zone:zone=qLk:=hz.trans (if_neg d1)
  have f_pin:pin=[49,50,51,52,53]:=hpi.trans (if_neg d2)
  have f_puk:puk=[57,57,57,57]:=hpu.trans (if_neg d2)
  have f_ck:ck=505:=hck.trans (if_neg d3)
  have f_ak:ak=606:=hak.trans (if_neg d3)
  have f_infs:infs=qJl (qNo 505):=hin.trans (if_neg d4)
  rw [f_zone,f_pin,f_puk,f_ck,f_ak,f_infs]
  refine ⟨rfl,yf,⟨ObLe.refl _,ObLe.refl _,trivial,trivial,trivial,trivial,trivial,⟨?_,?_,?_,?_,?_,?_,?_,?_,?_,?_,?_,?_,?_,?_,?_,?_,trivial⟩,trivial,trivial,trivial,ObLe.refl _,trivial⟩⟩ <;> first | exact .refl _ | exact .dat | exact .nils
 ·rintro e' τ h ⟨rfl,t1,t2⟩
  refine qAs t1 t2 ?_
  refine qAl (qAh ?_)
  refine wwc p2 ?_
  refine wws ?_
  refine qAe (qAr rfl rfl (s12) [0] (by decide) rfl rfl rfl rfl rfl rfl rfl) rfl ?_
  refine wws ?_
  refine qAe (qAr rfl rfl (s13) [0] (by decide) rfl rfl rfl rfl rfl rfl rfl) rfl ?_
  refine wws ?_
  refine qAe (qAr rfl rfl (s14) [0] (by decide) rfl rfl rfl rfl rfl rfl rfl) rfl ?_
  refine wws ?_
  refine qAl (qAh ?_)
  refine qAe (buildCB_ok (i0:=11) (s:=[76,56,57,56,57,48,50,67,60]) hT rfl rfl rfl) rfl ?_
  refine qAe (markCB_ok hT rfl rfl rfl rfl rfl) rfl ?_
  refine wws ?_
  refine qAe (qAr rfl rfl (s15) [0] (by decide) rfl rfl rfl rfl rfl rfl rfl) rfl ?_
  refine wws ?_
  refine qAl (qAh ?_)
  refine qAe (qBg (i:=7) (off:=0) hT rfl rfl rfl (L16 (C:=[.d (.sl 5 R),.d (.sl 2 A),.d (.str zone),.d (.sl 1 (qAg [49,50,51,52,53,54])),.d (.sl 1 (qAg pin)),.d (.sl 1 (qAg puk)),.I pr,.I ur,.d (.bool ba),.d (.sl 5 (qAt infs)),
   .I ck,.I ak,.sl 5 [[.str [82,79,79,84,49],.int .i64 (qNo 1001),.int .i64 (IntKind.i64.wrap (1+x.rg)),.int .i64 100,.int .i64 (IntKind.i64.wrap (20000+IntKind.i64.wrap (x.tl*20000)))]] .full,.I x.dt,.sl 1 (qAg [76,56,57,56,57,48,50,67,60]) .full,.d (.sl 1 (qAg x.sd))]) rfl)) rfl ?_
  refine qBb (qAz (i:=1) (off:=0) hT rfl rfl rfl (S16 (C:=[.d (.sl 5 R),.d (.sl 2 A),.d (.str zone),.d (.sl 1 (qAg [49,50,51,52,53,54])),.d (.sl 1 (qAg pin)),.d (.sl 1 (qAg puk)),.I pr,.I ur,.d (.bool ba),.d (.sl 5 (qAt infs)),
   .I ck,.I ak,.sl 5 [[.str [82,79,79,84,49],.int .i64 (qNo 1001),.int .i64 (IntKind.i64.wrap (1+x.rg)),.int .i64 100,.int .i64 (IntKind.i64.wrap (20000+IntKind.i64.wrap (x.tl*20000)))]] .full,.I x.dt,.sl 1 (qAg [76,56,57,56,57,48,50,67,60]) .full,.d (.sl 1 (qAg x.sd))]) rfl rfl)) (forceS_eq _ _) ?_
  refine qBm ?_
  clear s1 s2 s3 s4 s5 s6 s7 s8 s9 s10 s11 s12 s13 s14 s15
  refine wwn ?_
  subst hR hA hz hpi hpu hck hak hin
  refine qCy ⟨rfl,rfl⟩ rfl (AV.le.agg ⟨.refl _,.refl _,.refl _,.refl _,.refl _,.refl _,.int hpr,.int hur,.bool hba,.refl _,.refl _,.refl _,AV.le.eq (by rw [w3,w4,w5];rfl),.refl _,.dat,.refl _,trivial⟩) rfl rfl rfl rfl
def qPy (L:List Int) (a:Nat):MkV×Nat :=
 let f:=qRk L a
 let b0:=byF L f.2.2 20
 let b1:=byF L b0.2 30
 let b2:=byF L b1.2 30
 let b3:=byF L b2.2 30
 let b4:=byF L b3.2 30
 let b5:=byF L b4.2 9
 let a7:=b5.2
 let a8:=nxA L a7
 let a9:=nxA L a8
 let a10:=nxA L a9
 let a11:=nxA L a10
 let a12:=nxA L a11
 let a13:=nxA L a12
 let a14:=nxA L a13
 let sd:=byF L a14 8
 (⟨f.1,f.2.1,b0.1,b1.1,b2.1,b3.1,b4.1,b5.1,nxV L a7 4,nxV L a8 3,nxV L a9 4,nxV L a10 8,nxV L a11 7,nxV L a12 2,nxV L a13 300,sd.1⟩,sd.2)
structure MkOk (x:MkV):Prop where
 root:x.root.length≤4∧∀ f,f∈x.root→f.con.length≤60
 apps:x.apps.length≤2∧∀ f,f∈x.apps→ApOk f
 b0:x.b0.length≤20
 b1:x.b1.length≤30
 b2:x.b2.length≤30
 b3:x.b3.length≤30
 b4:x.b4.length≤30
 b5:x.b5.length≤9
 sd:x.sd.length≤8
theorem mkVal_spec (L:List Int) (hL:L.length≤1000000) (a:Nat) (ha:a≤L.length):MkS L a (qPy L a).1 (qPy L a).2∧MkOk (qPy L a).1∧(qPy L a).2≤L.length:=by
 have h0:=flsF_ok ha
 have h1:=byF_ok (n:=20) h0.2.2.2.2
 have h2:=byF_ok (n:=30) h1.2
 have h3:=byF_ok (n:=30) h2.2
 have h4:=byF_ok (n:=30) h3.2
 have h5:=byF_ok (n:=30) h4.2
 have h6:=byF_ok (n:=9) h5.2
 have h7:=nxA_le h6.2
 have h8:=nxA_le h7
 have h9:=nxA_le h8
 have h10:=nxA_le h9
 have h11:=nxA_le h10
 have h12:=nxA_le h11
 have h13:=nxA_le h12
 have h14:=byF_ok (n:=8) h13
 refine ⟨⟨⟨_,_,_,_,_,_,_,_,_,_,_,_,_,_,qOg L hL a ha,qDp L hL _ h0.2.2.2.2 20 (by omega),qEu L hL _ h1.2 30 (by omega),qEu L hL _ h2.2 30 (by omega),qEu L hL _ h3.2 30 (by omega),qEu L hL _ h4.2 30 (by omega),qDp L hL _ h5.2 9 (by omega),
   qAq L hL _ h6.2 4 (by omega) (by omega),qAq L hL _ h7 3 (by omega) (by omega),qGk L hL _ h8 4 (by omega) (by omega),qAq L hL _ h9 8 (by omega) (by omega),qAq L hL _ h10 7 (by omega) (by omega),qAq L hL _ h11 2 (by omega) (by omega),qAq L hL _ h12 300 (by omega) (by omega),qDp L hL _ h13 8 (by omega)⟩,
   h0.1,h0.2.2.1,h2.1,h3.1,h4.1,h5.1,nxV_range (by omega),nxV_range (by omega),nxV_range (by omega),nxV_range (by omega)⟩,
  ⟨⟨h0.1,h0.2.1⟩,⟨h0.2.2.1,h0.2.2.2.1⟩,h1.1,h2.1,h3.1,h4.1,h5.1,h6.1,h14.1⟩,h14.2⟩
structure MkP (p:Per):Prop where
 len:PerLen p
 sd:p.seed.length≤8
 tps:∃ t,p.tps=[t]∧t.holder.length≤16
theorem mkP_of {x:MkV} (h:MkOk x):MkP (qFa x):=by
 have hr:=h.root
 have ha:=h.apps
 have h0:=h.b0
 have h1:=h.b1
 have h2:=h.b2
 have h3:=h.b3
 have h4:=h.b4
 have h5:=h.b5
 have h6:=h.sd
 refine ⟨⟨⟨?_,fun f hf=>?_⟩,⟨?_,fun f hf=>?_,fun f hf g hg=>?_⟩,⟨?_,?_,?_,?_,?_⟩,?_,?_⟩,h6,qZc x,rfl,?_⟩
 ·show (qCr x).length≤_
  simp [qCr];omega
 ·have hf':f∈qCr x:=hf
  unfold qCr at hf'
  rcases List.mem_append.1 hf' with hf' | hf'
  ·have:=hr.2 f hf';omega
  ·rw [List.mem_singleton.1 hf'];simp only;omega
 ·show (qFg x).length≤_
  simp [qFg];omega
 ·have hf':f∈qFg x:=hf
  rcases List.mem_cons.1 hf' with rfl | hf'
  ·exact ⟨by simp [qVr],by simp [qVr]⟩
  ·have:=ha.2 f hf';exact ⟨by have:=this.2.1;omega,by have:=this.1;omega⟩
 ·have hf':f∈qFg x:=hf
  rcases List.mem_cons.1 hf' with rfl | hf'
  ·simp only [qVr,List.mem_cons,List.not_mem_nil,or_false] at hg
   rcases hg with rfl | rfl | rfl | rfl | rfl <;> simp only [List.length_append,List.length_singleton] <;> omega
  ·have:=(ha.2 f hf').2.2 g hg;omega
 ·show (List.length _)≤_
  simp [qFa]
 ·simp only [qFa];split <;> simp
 ·simp only [qFa];split <;> simp
 ·simp [qFa]
 ·show x.sd.length≤_
  omega
 ·simp only [qFa];split <;> simp [qJl]
 ·simp [qFa]
 ·simp [qZc]
def perE:Per:=qFa ⟨[],[],[],[],[],[],[],[],0,0,0,0,0,0,0,[]⟩
theorem makeNil_spec:Spec Tryz.prog 17 [.ptr 0 0] [.row (qAk [] 0)] (fun r h'=>r=.agg (qUg perE)∧h'=[.row (qAk [] 0)]):=by
 obtain ⟨h1,h2,h3⟩:=mkVal_spec [] (by simp) 0 (by simp)
 exact qMb [] 0 _ _ h1
theorem perE_ok:MkP perE:=mkP_of ⟨⟨by simp,fun f hf=>by cases hf⟩,⟨by simp,fun f hf=>by cases hf⟩,by simp,by simp,by simp,by simp,by simp,by simp,by simp⟩
def per0:Per:=⟨[],[],[],[],[],[],0,0,false,[],0,0,[],0,[],[]⟩
theorem chC_le (p:Per) (a b:List UInt8):AV.le (.agg (chC p (qAg a) (qAg b))) (.agg (chG p a b p.seed false 0 0 [])):=by
 refine AV.le.agg ?_
 unfold chC chG
 exact ⟨.refl _,.refl _,.refl _,.refl _,.refl _,.refl _,.refl _,.refl _,.refl _,.refl _,.refl _,.refl _,.refl _,.refl _,.refl _,.refl _,
  .refl _,.refl _,.refl _,.refl _,.refl _,.refl _,.refl _,.refl _,.refl _,.refl _,.refl _,.refl _,.dat,.dat,.refl _,.refl _,.refl _,.refl _,.dat,.refl _,.refl _,.dat,.refl _,.refl _,.refl _,.refl _,.dat,.dat,.refl _,
  .dat,.refl _,.refl _,.refl _,.refl _,.refl _,.refl _,.dat,.refl _,.refl _,.refl _,.refl _,.refl _,.dat,.refl _,trivial⟩
def chZ:List AV:=qFu++[.sl 1 [] .full,.sl 1 [] .full,.sl 1 [] .full]++chOff
theorem chZ_le:AV.le (.agg chZ) (.agg (chG per0 [] [] [] false 0 0 [])):=by
 refine AV.le.agg ?_
 unfold chZ chG
 exact ⟨.dat,.dat,.refl _,.dat,.dat,.dat,.refl _,.refl _,.refl _,.dat,.refl _,.refl _,.dat,.refl _,.dat,.dat,
  .dat,.dat,.dat,.refl _,.refl _,.refl _,.refl _,.refl _,.refl _,.refl _,.refl _,.refl _,.dat,.dat,.refl _,.refl _,.refl _,.refl _,.dat,.refl _,.refl _,.dat,.refl _,.refl _,.refl _,.refl _,.dat,.dat,.refl _,
  .dat,.refl _,.refl _,.refl _,.refl _,.refl _,.refl _,.dat,.refl _,.refl _,.refl _,.refl _,.refl _,.dat,.refl _,trivial⟩
theorem qPd:qHf T 71 []=some (.agg chZ):=by kernel_rfl
def qWj (p:Per):List AV:=if qCi p=0 then chG p (mem0 p) (List.replicate 265 0) p.seed false 0 0 [] else chG per0 [] [] [] false 0 0 []
theorem newP_spec (p:Per) (hp:PerLen p) (hn:∀ t,t∈p.tps→t.holder.length≤1000000):Spec Tryz.prog 19 [qBw p] [] (fun r h'=>r=.tup [.agg (qWj p),.I (qCi p)]∧h'=[]):=by
 unfold qWj
 by_cases hv:qCi p=0
 ·have h:=newChip_spec p hp hn hv
  rw [if_pos hv,hv]
  exact h.weak (AV.le.tup ⟨chC_le p _ _,.refl _,trivial⟩) rfl
 ·rw [if_neg hv]
  have h1:=validP_spec p hp hn
  generalize qCi p=e at h1 hv ⊢
  clear hp hn
  obtain ⟨root,apps,zone,number,pin,puk,pr,ur,basic,infos,ck,ak,tps,tday,ident,seed⟩:=p
  refine qAb hT Tryz.func19 rfl rfl rfl rfl ?_;intro E hE
  refine qAi ?_
  refine qAl (qAh ?_)
  refine wk hT rfl rfl ?_
  refine qAe (allocAt_ok (i0:=0) (i:=tiC) hT rfl tiC_find rfl) rfl ?_
  refine wws ?_
  refine wwn ?_
  refine wwc h1 ?_
  refine wwn ?_
  refine qAa rfl (fun c1=>?_) (fun c1=>?_)
  ·refine qAl (qAh ?_)
   refine qAe (qAd (qDe hT rfl qPd)) rfl ?_
   refine wk hT rfl rfl ?_
   refine qBb (qAz (i:=0) (off:=0) hT rfl rfl rfl (S60 (C:=chZ) rfl rfl)) (forceS_eq _ _) ?_
   refine ww ?_
   refine rq ⟨rfl,rfl⟩ rfl (AV.le.tup ⟨chZ_le,.refl _,trivial⟩)
  ·exact absurd (by simpa using c1) hv
theorem qPx (p:Per) (hp:PerLen p) (hn:∀ t,t∈p.tps→t.holder.length≤1000000):Spec Tryz.prog 20 [qBw p] [] (fun r h'=>r=.tup [.agg (qWj p),.I (qCi p)]∧h'=[]):=by
 have h1:=qFb p (hp.any hn)
 unfold qWj
 by_cases hv:qCi p=0
 ·rw [if_pos hv]
  rw [hv] at h1 ⊢
  have h2:=encRec28_spec p.pr p.ur p.pin p.tps p.tday (by have:=hp.str.2.1;omega) (by have:=hp.tps;omega) (fun t ht=>by have:=hn t ht;omega)
  have hrl:=recF_len (pr:=p.pr) (ur:=p.ur) (pin:=p.pin) (l:=p.tps) (day:=p.tday)
  have h3:=qMj (qJj p.pr p.ur p.pin p.tps p.tday).1 (by omega)
  rw [if_neg (by omega)] at h3
  have hle:=chC_le p (mem0 p) (List.replicate 265 0)
  have hsl:=hp.str.2.2.2.2
  unfold mem0 at hle ⊢
  clear hp hn hv hrl
  generalize qBv 0 (qJj p.pr p.ur p.pin p.tps p.tday).1=im at h3 hle ⊢
  generalize qJj p.pr p.ur p.pin p.tps p.tday=R at h2 h3
  obtain ⟨R1,R2⟩:=R
  simp only at h2 h3
  generalize List.replicate 265 (0:UInt8)=ze at h3 hle ⊢
  obtain ⟨root,apps,zone,number,pin,puk,pr,ur,basic,infos,ck,ak,tps,tday,ident,seed⟩:=p
  simp only at *
  generalize qAg im=imb at h3 hle
  refine qAb hT Tryz.func20 rfl rfl rfl rfl ?_;intro E hE
  refine qAi ?_
  refine qAl (qAh ?_)
  refine wk hT rfl rfl ?_
  refine qAe (allocAt_ok (i0:=0) (i:=tiC) hT rfl tiC_find rfl) rfl ?_
  refine wws ?_
  refine wwn ?_
  refine wwc h1 ?_
  refine wwn ?_
  refine qAa rfl (fun c1=>?_) (fun c1=>?_)
  ·exact absurd c1 (by simp)
  refine wwn ?_
  refine wwc h2 ?_
  refine wwn ?_
  refine wwc h3 ?_
  refine wwn ?_
  refine qAy (fun i=>bif Nat.beq i 0||Nat.beq i 3 then [1] else bif Nat.beq i 1 then [2] else bif Nat.beq i 6 then [0] else []) (fun i=>bif Nat.beq i 6 then [0] else []) mixed (by kernel_rfl) ?_
  refine wwg ?_
  refine qAm (v:=.d (.sl 1 (qAg seed))) (os:=[]) (fun k hk1 hk2=>qBe (es:=[]) (es2:=qAg seed) hT rfl rfl rfl (.inr ⟨rfl,rfl⟩) rfl (by show (0+(qAg seed).length)*(1+1)≤_;rw [encB_length];omega)) rfl ?_
  refine qAm (v:=.agg (chC ⟨root,apps,zone,number,pin,puk,pr,ur,basic,infos,ck,ak,tps,tday,ident,seed⟩ imb (qAg ze))) (os:=[]) (fun k hk1 hk2=>qAd (qDe hT rfl (qOa ⟨root,apps,zone,number,pin,puk,pr,ur,basic,infos,ck,ak,tps,tday,ident,seed⟩ imb (qAg ze)))) rfl ?_
  refine qAm (v:=.any) (os:=[.row (chC ⟨root,apps,zone,number,pin,puk,pr,ur,basic,infos,ck,ak,tps,tday,ident,seed⟩ imb (qAg ze))]) (fun k hk1 hk2=>qAz (i:=0) (off:=0) hT rfl rfl ((hk2 0 List.mem_cons_self).trans rfl) (S60 rfl rfl)) rfl ?_
  refine wwg ?_
  refine ww ?_
  refine rq ⟨rfl,rfl⟩ rfl (AV.le.tup ⟨hle,.refl _,trivial⟩)
 ·rw [if_neg hv]
  generalize qCi p=e at h1 hv ⊢
  clear hp hn
  obtain ⟨root,apps,zone,number,pin,puk,pr,ur,basic,infos,ck,ak,tps,tday,ident,seed⟩:=p
  refine qAb hT Tryz.func20 rfl rfl rfl rfl ?_;intro E hE
  refine qAi ?_
  refine qAl (qAh ?_)
  refine wk hT rfl rfl ?_
  refine qAe (allocAt_ok (i0:=0) (i:=tiC) hT rfl tiC_find rfl) rfl ?_
  refine wws ?_
  refine wwn ?_
  refine wwc h1 ?_
  refine wwn ?_
  refine qAa rfl (fun c1=>?_) (fun c1=>?_)
  ·refine qAl (qAh ?_)
   refine qAe (qAd (qDe hT rfl qPd)) rfl ?_
   refine wk hT rfl rfl ?_
   refine qBb (qAz (i:=0) (off:=0) hT rfl rfl rfl (S60 (C:=chZ) rfl rfl)) (forceS_eq _ _) ?_
   refine ww ?_
   refine rq ⟨rfl,rfl⟩ rfl (AV.le.tup ⟨chZ_le,.refl _,trivial⟩)
  ·exact absurd (by simpa using c1) hv
theorem perS {C rest:List AV} (p:Per) (h:C=qBj p++rest):qFe T 50 C 0 (qBw p)=some C:=by
 refine storeA_agg (i:=(T.find 50).getD ⟨.str,0,0,[]⟩) rfl rfl ?_ ?_
 ·rw [h,List.length_append]
  exact Nat.le_add_right 16 _
 ·rw [h]
  exact setRun_head rfl
def clH (C:List AV):List AObj:=[.room,.row C,.row (qFu++[.sl 1 [] .full,.sl 1 [] .full,.sl 1 [] .full]++chOff)]
theorem qJx (p:Per) (hp:PerLen p) (m0 m1:List UInt8) (on:Bool) (pa pf:Int) (nonce:List UInt8) (h0:m0.length≤1000000) (h1:m1.length≤1000000) (hn:nonce.length≤1000000) :
  Spec Tryz.prog 59 [.agg (chG p m0 m1 p.seed on pa pf nonce)] [] (fun r h'=>r=.agg (chG p m0 m1 p.seed on pa pf nonce)∧h'=[]):=by
 have e0:=clonePer_spec p hp
 have c0:=qBc (qAg m0) (by rw [encB_length];exact h0)
 have c1:=qBc (qAg m1) (by rw [encB_length];exact h1)
 have c2:=qBc (qAg p.seed) (by rw [encB_length];exact hp.str.2.2.2.2)
 have c3:=qBc (qAg nonce) (by rw [encB_length];exact hn)
 have c4:=qBc (qAg []) (by rw [encB_length];simp)
 have e1:=cloneSes_spec [] [] 0 (by simp) (by simp)
 have e2:=cloneCom_spec 0 0 0 0 [] 0 (by simp)
 obtain ⟨rest,hrest⟩:=chG_cut p m0 m1 p.seed on pa pf nonce
 have hL:=qYn p hrest
 have hS:=perS p hrest
 clear hp
 refine qAb hT Tryz.func59 rfl rfl rfl rfl ?_;intro E hE
 refine qAi (qAi (qAi ?_))
 refine qAl (qAh ?_)
 refine qAe (boxAt_ok (i0:=1) (cs:=chG p m0 m1 p.seed on pa pf nonce) rfl rfl rfl) rfl ?_
 refine qAe (allocAt_ok (i0:=2) (i:=tiC) hT rfl tiC_find rfl) rfl ?_
 refine wws ?_
 refine qAl (qAh ?_)
 refine wk hT rfl rfl ?_
 refine qAe (qBg (i:=1) (off:=0) hT rfl rfl rfl hL) rfl ?_
 refine wwc e0 ?_
 refine wk hT rfl rfl ?_
 refine qBb (qAz (i:=1) (off:=0) hT rfl rfl rfl hS) (forceS_eq _ _) ?_
 refine qBm ?_
 refine qAs (l:=[(1,.ptr 1 0),(2,.ptr 2 0)]) (h':=clH (chG p m0 m1 p.seed on pa pf nonce)) yf (HLe.refl _) ?_
 clear hL hS e0 hrest
 refine wwn ?_
 refine qAw (ι:=Nat) (fun i=>[(1,.ptr 1 0),(2,.ptr 2 0),(13,.agg [.d (.sl 1 (qAg m0)),.d (.sl 1 (qAg m1))]),(14,.I (i:Int))]) (fun _=>clH (chG p m0 m1 p.seed on pa pf nonce)) (fun i=>i≤2) (fun i=>2-i) 0 (Nat.zero_le _)
  yf (HLe.refl _) ?_
 intro i hi
 rcases (by omega:i=0∨i=1∨i=2) with rfl | rfl | rfl
 ·refine wwn ?_
  refine qAa rfl (fun q=>?_) (fun q=>absurd q (by decide))
  refine wwn ?_
  refine qAe (qAd (arrIdx_ok hT rfl rfl rfl rfl ⟨by decide,by decide⟩ rfl)) rfl ?_
  refine wwn ?_
  refine wwc c0 ?_
  refine wwn ?_
  first | refine qAe (qAd (arrPtr_ok hT rfl rfl rfl rfl (by decide))) rfl ?_ | refine qBh (qAd (arrPtr_ok hT rfl rfl rfl rfl (by decide))) rfl rfl ?_
  refine wwn ?_
  exact ⟨1,by omega,by omega,yf,HLe.refl _⟩
 ·refine wwn ?_
  refine qAa rfl (fun q=>?_) (fun q=>absurd q (by decide))
  refine wwn ?_
  refine qAe (qAd (arrIdx_ok hT rfl rfl rfl rfl ⟨by decide,by decide⟩ rfl)) rfl ?_
  refine wwn ?_
  refine wwc c1 ?_
  refine wwn ?_
  first | refine qAe (qAd (arrPtr_ok hT rfl rfl rfl rfl (by decide))) rfl ?_ | refine qBh (qAd (arrPtr_ok hT rfl rfl rfl rfl (by decide))) rfl rfl ?_
  refine wwn ?_
  exact ⟨2,by omega,by omega,yf,HLe.refl _⟩
 ·refine wwn ?_
  refine qAa rfl (fun q=>absurd q (by decide)) (fun q=>?_)
  refine wwn ?_
  refine wwc e1 ?_
  refine wwn ?_
  refine wwc c4 ?_
  refine wwn ?_
  refine wwc e1 ?_
  refine wwn ?_
  refine wwc e2 ?_
  refine wwn ?_
  refine qAe (buildRowAt_ok (i0:=0) hT rfl rfl rfl) rfl ?_
  refine wwn ?_
  refine qAw (ι:=Nat) (fun i=>[(1,.ptr 1 0),(2,.ptr 2 0),(52,.row 0 0 4 4),(53,.I 4),(54,.I (i:Int))])
   (fun _=>[.row [.ptr 1 18,.ptr 1 37,.ptr 1 45,.ptr 1 52],.row (chG p m0 m1 p.seed on pa pf nonce),.row (qFu++[.sl 1 [] .full,.sl 1 [] .full,.sl 1 [] .full]++chOff)]) (fun i=>i≤4) (fun i=>4-i) 0 (Nat.zero_le _)
   yf (HLe.refl _) ?_
  intro i hi
  rcases (by omega:i=0∨i=1∨i=2∨i=3∨i=4) with rfl | rfl | rfl | rfl | rfl
  ·refine wwn ?_
   refine qAa rfl (fun q=>?_) (fun q=>absurd q (by decide))
   refine wwn ?_
   refine qAe (qAd (rowAddr_ok (sz:=1) hT rfl rfl rfl rfl ⟨by decide,by decide⟩)) rfl ?_
   refine wwn ?_
   refine wwc c2 ?_
   refine wwn ?_
   exact ⟨1,by omega,by omega,yf,HLe.refl _⟩
  ·refine wwn ?_
   refine qAa rfl (fun q=>?_) (fun q=>absurd q (by decide))
   refine wwn ?_
   refine qAe (qAd (rowAddr_ok (sz:=1) hT rfl rfl rfl rfl ⟨by decide,by decide⟩)) rfl ?_
   refine wwn ?_
   refine wwc c4 ?_
   refine wwn ?_
   exact ⟨2,by omega,by omega,yf,HLe.refl _⟩
  ·refine wwn ?_
   refine qAa rfl (fun q=>?_) (fun q=>absurd q (by decide))
   refine wwn ?_
   refine qAe (qAd (rowAddr_ok (sz:=1) hT rfl rfl rfl rfl ⟨by decide,by decide⟩)) rfl ?_
   refine wwn ?_
   refine wwc c3 ?_
   refine wwn ?_
   exact ⟨3,by omega,by omega,yf,HLe.refl _⟩
  ·refine wwn ?_
   refine qAa rfl (fun q=>?_) (fun q=>absurd q (by decide))
   refine wwn ?_
   refine qAe (qAd (rowAddr_ok (sz:=1) hT rfl rfl rfl rfl ⟨by decide,by decide⟩)) rfl ?_
   refine wwn ?_
   refine wwc c4 ?_
   refine wwn ?_
   exact ⟨4,by omega,by omega,yf,HLe.refl _⟩
  ·refine wwn ?_
   refine qAa rfl (fun q=>absurd q (by decide)) (fun q=>?_)
   refine wwe ?_
   refine qAl (qAh ?_)
   refine qAe (qBg (i:=1) (off:=0) hT rfl rfl rfl (L60 (C:=chG p m0 m1 p.seed on pa pf nonce) rfl)) rfl ?_
   refine qBb (qAz (i:=2) (off:=0) hT rfl rfl rfl (S60 (C:=chG p m0 m1 p.seed on pa pf nonce) rfl rfl)) (forceS_eq _ _) ?_
   refine wwn ?_
   exact wwr
theorem powerC_spec (p:Per) (hp:PerLen p) (m0 m1:List UInt8) (on:Bool) (pa pf:Int) (nonce:List UInt8) (h0:m0.length≤1000000) (h1:m1.length≤1000000) (hn:nonce.length≤1000000) :
  Spec Tryz.prog 26 [.agg (chG p m0 m1 p.seed on pa pf nonce)] [] (fun r h'=>r=.agg (chG p m0 m1 p.seed true (-1) (-1) [])∧h'=[]):=by
 have e0:=qJx p hp m0 m1 on pa pf nonce h0 h1 hn
 have e1:=qUl p m0 m1 on pa pf nonce
 clear hp
 refine qAb hT Tryz.func26 rfl rfl rfl rfl ?_;intro E hE
 refine qAi (qAi (qAi ?_))
 refine qAl (qAh ?_)
 refine qAe (boxAt_ok (i0:=0) (cs:=chG p m0 m1 p.seed on pa pf nonce) rfl rfl rfl) rfl ?_
 refine qAe (allocAt_ok (i0:=1) (i:=tiC) hT rfl tiC_find rfl) rfl ?_
 refine wws ?_
 refine qAl (qAh ?_)
 refine qAe (qBg (i:=0) (off:=0) hT rfl rfl rfl (L60 (C:=chG p m0 m1 p.seed on pa pf nonce) rfl)) rfl ?_
 refine wwc e0 ?_
 refine wwc e1 ?_
 refine qAe (allocAt_ok (i0:=2) (i:=tiC) hT rfl tiC_find rfl) rfl ?_
 refine qBb (qAz (i:=2) (off:=0) hT rfl rfl rfl (S60 (C:=chG p m0 m1 p.seed false 0 0 []) rfl rfl)) (forceS_eq _ _) ?_
 refine qBm ?_
 refine qAs (l:=[(1,.ptr 0 0),(2,.ptr 1 0),(3,.ptr 2 0)]) (h':=[.row (chG p m0 m1 p.seed on pa pf nonce),.row tiC.zero,.row (chG p m0 m1 p.seed false 0 0 [])]) yf (HLe.refl _) ?_
 refine qAl (qAh ?_)
 refine wws ?_
 refine qAs (l:=[(1,.ptr 0 0),(2,.ptr 1 0),(3,.ptr 2 0)]) (h':=[.row (chG p m0 m1 p.seed on pa pf nonce),.row tiC.zero,.row (chG p m0 m1 p.seed true (-1) (-1) [])]) yf (HLe.refl _) ?_
 refine qAl (qAh ?_)
 refine qAe (qBg (i:=2) (off:=0) hT rfl rfl rfl (L60 (C:=chG p m0 m1 p.seed true (-1) (-1) []) rfl)) rfl ?_
 refine qBb (qAz (i:=1) (off:=0) hT rfl rfl rfl (S60 (C:=chG p m0 m1 p.seed true (-1) (-1) []) rfl rfl)) (forceS_eq _ _) ?_
 refine wwn ?_
 exact wwr
end Tdoc
namespace Tdoc
open Go
def tk (b:List UInt8) (r:Nat×Bool) (n:Nat):List UInt8×(Nat×Bool) :=
 if r.2=true∨b.length-r.1 < n then ([],(r.1,true)) else ((b.drop r.1).take n,(r.1+n,false))
theorem qHs {b:List UInt8} {r:Nat×Bool} (n:Nat) (h:r.2=true):tk b r n=([],(r.1,true)):=by unfold tk;rw [if_pos (.inl h)]
theorem qIb {b:List UInt8} {a n:Nat} (h:a+n≤b.length):tk b (a,false) n=((b.drop a).take n,(a+n,false)):=by
 unfold tk
 rw [if_neg (by simp;omega)]
theorem qOl {b:List UInt8} {a n:Nat} (h:b.length < a+n) (ha:a≤b.length):tk b (a,false) n=([],(a,true)):=by
 unfold tk
 rw [if_pos (.inr (by show b.length-a < n;omega))]
theorem qGn {b:List UInt8} {r:Nat×Bool} (n:Nat) (h:r.1≤b.length):(tk b r n).2.1≤b.length∧(tk b r n).1.length≤n:=by
 unfold tk
 split
 ·exact ⟨h,by simp⟩
 ·rename_i hh
  refine ⟨?_,by simp;omega⟩
  have:¬ (b.length-r.1 < n):=fun h=>hh (.inr h)
  show r.1+n≤b.length
  omega
structure PtR where
 hold:List UInt8
 key:List UInt8
 r1:Nat×Bool
 rights:Int
 frm:Int
 til:Int
 r2:Nat×Bool
def ptR (b:List UInt8) (r:Nat×Bool):PtR :=
 let l:=tk b r 1
 let h:=tk b l.2 (nbV l.1)
 let k:=tk b h.2 4
 let i:=tk b k.2 2
 let f:=tk b i.2 3
 let t:=tk b f.2 3
 ⟨h.1,k.1,k.2,(nbV i.1:Nat),(nbV f.1:Nat),(nbV t.1:Nat),t.2⟩
theorem nbV_one (c:UInt8):nbV [c]=c.toNat:=by show 256*0+c.toNat=_;omega
theorem nbV_lt (v:List UInt8) (h:v.length≤1):nbV v≤255:=by
 match v,h with
 | [],_=>exact Nat.zero_le _
 | [c],_=>rw [nbV_one];have:=c.toNat_lt;omega
theorem ptR_short {b:List UInt8} {r:Nat×Bool} (h:r.2=true):(ptR b r).key=[]∧(ptR b r).r2.2=true:=by
 unfold ptR
 simp only [qHs 1 h]
 have e:∀ (x:Nat) (n:Nat),tk b (x,true) n=([],(x,true)):=fun x n=>qHs n rfl
 simp [e]
theorem ptR_some {b:List UInt8} {a:Nat} {p:Tp} {r:List UInt8} (ha:a≤b.length) (h:ptD (b.drop a)=some (p,r)) :
  (ptR b (a,false)).hold=p.holder∧(nbV (ptR b (a,false)).key:Int)=p.key∧(ptR b (a,false)).key.length=4∧(ptR b (a,false)).rights=p.rights∧(ptR b (a,false)).frm=p.frm∧(ptR b (a,false)).til=p.til ∧
  (ptR b (a,false)).r2.2=false∧(ptR b (a,false)).r2.1≤b.length∧b.drop (ptR b (a,false)).r2.1=r:=by
 cases hd:b.drop a with
 | nil=>rw [hd,ptD] at h;cases h
 | cons c x =>
  rw [hd,ptD] at h
  have hlen:b.length=a+1+x.length:=by
   have:=congrArg List.length hd
   rw [List.length_drop,List.length_cons] at this
   omega
  split at h
  ·cases h
  rename_i hn
  have d1:b.drop (a+1)=x:=by rw [← List.drop_drop,hd];rfl
  have dn:∀ k,b.drop (a+1+k)=x.drop k:=fun k=>by rw [← List.drop_drop,d1]
  have t1:tk b (a,false) 1=([c],(a+1,false)):=by
   rw [qIb (by omega),hd];rfl
  have t2:tk b (a+1,false) c.toNat=(x.take c.toNat,(a+1+c.toNat,false)):=by rw [qIb (by omega),d1]
  have t3:tk b (a+1+c.toNat,false) 4=((x.drop c.toNat).take 4,(a+1+c.toNat+4,false)):=by rw [qIb (by omega),dn]
  have dk:∀ k,b.drop (a+1+c.toNat+k)=(x.drop c.toNat).drop k:=fun k=>by rw [← List.drop_drop,dn]
  have t4:tk b (a+1+c.toNat+4,false) 2=(((x.drop c.toNat).drop 4).take 2,(a+1+c.toNat+6,false)):=by rw [qIb (by omega),dk]
  have t5:tk b (a+1+c.toNat+6,false) 3=(((x.drop c.toNat).drop 6).take 3,(a+1+c.toNat+9,false)):=by rw [qIb (by omega),dk]
  have t6:tk b (a+1+c.toNat+9,false) 3=(((x.drop c.toNat).drop 9).take 3,(a+1+c.toNat+12,false)):=by rw [qIb (by omega),dk]
  simp only [Option.some.injEq,Prod.mk.injEq] at h
  obtain ⟨rfl,rfl⟩:=h
  unfold ptR
  simp only [t1,nbV_one,t2,t3,t4,t5,t6]
  refine ⟨?_,?_,?_,?_,?_,?_,?_,?_,?_⟩ <;> first | exact trivial | rfl | exact dk 12 | (rw [List.length_take,List.length_drop];omega) | omega
theorem ptR_none {b:List UInt8} {a:Nat} (ha:a≤b.length) (h:ptD (b.drop a)=none):(ptR b (a,false)).r2.2=true:=by
 have e:∀ (x:Nat) (n:Nat),tk b (x,true) n=([],(x,true)):=fun x n=>qHs n rfl
 cases hd:b.drop a with
 | nil =>
  have hlen:b.length=a:=by
   have:=congrArg List.length hd
   rw [List.length_drop,List.length_nil] at this
   omega
  have t1:tk b (a,false) 1=([],(a,true)):=qOl (by omega) ha
  unfold ptR
  simp only [t1,e]
 | cons c x =>
  rw [hd,ptD] at h
  have hlen:b.length=a+1+x.length:=by
   have:=congrArg List.length hd
   rw [List.length_drop,List.length_cons] at this
   omega
  split at h
  ·rename_i hn
   have t1:tk b (a,false) 1=([c],(a+1,false)):=by
    rw [qIb (by omega),hd];rfl
   unfold ptR
   simp only [t1,nbV_one]
   have key:∀ (q n:Nat),q≤b.length→(tk b (q,false) n=((b.drop q).take n,(q+n,false))∧q+n≤b.length)∨tk b (q,false) n=([],(q,true)):=by
    intro q n hq
    rcases Nat.lt_or_ge b.length (q+n) with h | h
    ·exact .inr (qOl h hq)
    ·exact .inl ⟨qIb h,h⟩
   rcases key (a+1) c.toNat (by omega) with ⟨t2,h2⟩ | t2
   ·simp only [t2]
    rcases key (a+1+c.toNat) 4 h2 with ⟨t3,h3⟩ | t3
    ·simp only [t3]
     rcases key (a+1+c.toNat+4) 2 h3 with ⟨t4,h4⟩ | t4
     ·simp only [t4]
      rcases key (a+1+c.toNat+4+2) 3 h4 with ⟨t5,h5⟩ | t5
      ·simp only [t5]
       rcases key (a+1+c.toNat+4+2+3) 3 h5 with ⟨t6,h6⟩ | t6
       ·omega
       ·simp only [t6]
      ·simp only [t5,e]
     ·simp only [t4,e]
    ·simp only [t3,e]
   ·simp only [t2,e]
  ·cases h
theorem ptsD_snoc:∀ (n:Nat) (x:List UInt8),qGd (n+1) x=match qGd n x with
  | none=>none
  | some (l,r)=>match ptD r with
   | none=>none
   | some (p,r')=>some (l++[p],r')
 | 0,x=>by
  show (match ptD x with | none=>none | some (p,r)=>match qGd 0 r with | none=>none | some (l,r')=>some (p::l,r'))=match ptD x with | none=>none | some (p,r')=>some ([]++[p],r')
  cases ptD x with
  | none=>rfl
  | some q=>rfl
 | n+1,x=>by
  have ih:=ptsD_snoc n
  rw [show qGd (n+1+1) x=(match ptD x with | none=>none | some (p,r)=>match qGd (n+1) r with | none=>none | some (l,r')=>some (p::l,r')) from rfl,
   show qGd (n+1) x=(match ptD x with | none=>none | some (p,r)=>match qGd n r with | none=>none | some (l,r')=>some (p::l,r')) from rfl]
  cases ptD x with
  | none=>rfl
  | some q =>
   obtain ⟨p,r⟩:=q
   simp only [ih r]
   cases qGd n r with
   | none=>rfl
   | some z =>
    obtain ⟨l,r'⟩:=z
    simp only
    cases ptD r' with
    | none=>rfl
    | some y=>rfl
theorem ptsD_more {n:Nat} {x:List UInt8} (h:qGd n x=none):∀ m,qGd (n+m) x=none
 | 0=>h
 | m+1=>by rw [← Nat.add_assoc,ptsD_snoc,ptsD_more h m]
theorem ptsD_pre:∀ {n m:Nat} {x:List UInt8} {l:List Tp} {r:List UInt8},qGd (n+m) x=some (l,r)→∃ l0 r0,qGd n x=some (l0,r0)∧∃ l1,l=l0++l1
 | n,0,x,l,r,h=>⟨l,r,h,[],by simp⟩
 | n,m+1,x,l,r,h=>by
  rw [← Nat.add_assoc,ptsD_snoc] at h
  cases hq:qGd (n+m) x with
  | none=>rw [hq] at h;cases h
  | some z =>
   obtain ⟨l',r'⟩:=z
   rw [hq] at h
   simp only at h
   cases hp:ptD r' with
   | none=>rw [hp] at h;cases h
   | some y =>
    obtain ⟨p,r''⟩:=y
    rw [hp] at h
    simp only [Option.some.injEq,Prod.mk.injEq] at h
    obtain ⟨l0,r0,h0,l1,h1⟩:=ptsD_pre hq
    exact ⟨l0,r0,h0,l1++[p],by rw [← h.1,h1,List.append_assoc]⟩
theorem ptsD_len:∀ {n:Nat} {x:List UInt8} {l:List Tp} {r:List UInt8},qGd n x=some (l,r)→l.length=n
 | 0,x,l,r,h=>by
  have:some (([]:List Tp),x)=some (l,r):=h
  cases this;rfl
 | n+1,x,l,r,h=>by
  rw [ptsD_snoc] at h
  cases hq:qGd n x with
  | none=>rw [hq] at h;cases h
  | some z =>
   obtain ⟨l',r'⟩:=z
   rw [hq] at h
   simp only at h
   cases hp:ptD r' with
   | none=>rw [hp] at h;cases h
   | some y =>
    obtain ⟨p,r''⟩:=y
    rw [hp] at h
    simp only [Option.some.injEq,Prod.mk.injEq] at h
    rw [← h.1,List.length_append,ptsD_len hq];rfl
theorem decTr_short {b:List UInt8} (h:b.length < 4):qDd b=none:=by unfold qDd;rw [if_pos h]
theorem decTr_none {b:List UInt8} (h:qGd (b.getD 3 0).toNat (b.drop 4)=none):qDd b=none:=by
 unfold qDd
 split
 ·rfl
 ·rw [h]
theorem decTr_some {b:List UInt8} {l:List Tp} {r:List UInt8} (hb:4≤b.length) (h:qGd (b.getD 3 0).toNat (b.drop 4)=some (l,r)):qDd b=if qBp l (qJw b)=(b,0) then some (l,qJw b) else none:=by
 unfold qDd
 rw [if_neg (by omega),h]
theorem decTr_many {b:List UInt8} (h:2 < (b.getD 3 0).toNat):qDd b=none:=by
 rcases Nat.lt_or_ge b.length 4 with h4 | h4
 ·exact decTr_short h4
 cases hq:qGd (b.getD 3 0).toNat (b.drop 4) with
 | none=>exact decTr_none hq
 | some z =>
  obtain ⟨l,r⟩:=z
  rw [decTr_some h4 hq,if_neg]
  intro he
  have hl:=ptsD_len hq
  unfold qBp at he
  split at he
  ·rename_i hv;exact hv (congrArg Prod.snd he)
  ·rename_i hv
   have:=(validTr_get (by simpa using hv)).2.1
   omega
theorem decTr_key {b:List UInt8} {n:Nat} {l:List Tp} {p:Tp} {r r':List UInt8} (h:qGd n (b.drop 4)=some (l,r)) (hp:ptD r=some (p,r')) (hk:qCz p.key=false) (hn:n < (b.getD 3 0).toNat):qDd b=none:=by
 rcases Nat.lt_or_ge b.length 4 with h4 | h4
 ·exact decTr_short h4
 cases hq:qGd (b.getD 3 0).toNat (b.drop 4) with
 | none=>exact decTr_none hq
 | some z =>
  obtain ⟨l2,r2⟩:=z
  rw [decTr_some h4 hq,if_neg]
  intro he
  have h1:qGd (n+1) (b.drop 4)=some (l++[p],r'):=by rw [ptsD_snoc,h];simp only [hp]
  obtain ⟨m,hm⟩:=Nat.exists_eq_add_of_le (show n+1≤(b.getD 3 0).toNat by omega)
  rw [hm] at hq
  obtain ⟨l0,r0,h0,l1,h2⟩:=ptsD_pre hq
  rw [h1] at h0
  have e0:l0=l++[p]:=by
   have:=Option.some.inj h0
   exact (congrArg Prod.fst this).symm
  unfold qBp at he
  split at he
  ·rename_i hv;exact hv (congrArg Prod.snd he)
  ·rename_i hv
   have hg:=goTp_get (validTr_get (by simpa using hv)).2.2.1 p (by rw [h2,e0];simp)
   rw [(pointE_get hg).2.1] at hk
   cases hk
open Go Go.Proofs
def rdC (b:List UInt8) (r:Nat×Bool):List AV:=[.d (.sl 1 (qAg b)),.d (.int .i64 (r.1:Int)),.d (.bool r.2)]
theorem qIc (b:List UInt8) (r:Nat×Bool) (n:Nat) (hb:b.length≤9223372036854775807) (hr:r.1≤b.length) (hn:n≤1000) :
  Spec Tryz.prog 69 [.ptr 0 0,.I (n:Int)] [.row (rdC b r)] (fun v h'=>v=.d (.sl 1 (qAg (tk b r n).1))∧h'=[.row (rdC b (tk b r n).2)]):=by
 have hl:=encB_length b
 obtain ⟨a,s⟩:=r
 simp only at hr
 unfold tk
 simp only
 refine qAb hT Tryz.func69 rfl rfl rfl rfl ?_;intro E hE
 refine ww ?_
 refine qAa rfl (fun c1=>?_) (fun c1=>?_)
 ·have h1:s=true∨b.length-a < n:=by
   rw [hl,qAj (by omega)] at c1
   cases s with
   | true=>exact .inl rfl
   | false=>simp at c1;omega
  rw [if_pos h1]
  refine ww ?_
  exact wwr
 have h1:¬ (s=true∨b.length-a < n):=by
  rw [hl,qAj (by omega)] at c1
  cases s with
  | true=>simp at c1
  | false=>simp at c1;simp;omega
 rw [if_neg h1]
 have hs:s=false:=by cases s with | true=>exact absurd (.inl rfl) h1 | false=>rfl
 subst hs
 have h2:a+n≤b.length:=by have:¬ (b.length-a < n):=fun h=>h1 (.inr h);omega
 have w1:IntKind.i64.wrap ((a:Int)+n)=((a+n:Nat):Int):=by rw [qAj (by omega)];simp
 have w2:IntKind.i64.wrap (((a+n:Nat):Int)-n)=(a:Int):=by rw [qAj (by omega)];omega
 have hcut:qHx (qAg b) (a:Int) ((a+n:Nat):Int)=qAg ((b.drop a).take n):=by
  unfold qHx
  rw [encB_drop,encB_take]
  show qAg ((b.drop a).take (a+n-a))=_
  rw [Nat.add_sub_cancel_left]
 refine ww ?_
 rw [w1]
 refine ww ?_
 rw [w2]
 refine ww ?_
 rw [hcut]
 exact wwr
theorem qCt (b:List UInt8) (r:Nat×Bool) (n:Nat) (hb:b.length≤9223372036854775807) (hr:r.1≤b.length) (hn:n≤7) :
  Spec Tryz.prog 68 [.ptr 0 0,.I (n:Int)] [.row (rdC b r)] (fun v h'=>v=.I ((nbV (tk b r n).1:Nat):Int)∧h'=[.row (rdC b (tk b r n).2)]):=by
 have ht:=qIc b r n hb hr (by omega)
 have hk:=(qGn n hr).2
 have hN:=qDu (tk b r n).1 (by omega)
 have e:(qUn (tk b r n).1).1=((nbV (tk b r n).1:Nat):Int):=by unfold qUn;rw [if_neg (by omega)];rfl
 rw [e] at hN
 generalize tk b r n=w at ht hN ⊢
 obtain ⟨v,r'⟩:=w
 simp only at ht hN ⊢
 refine qAb hT Tryz.func68 rfl rfl rfl rfl ?_;intro E hE
 refine ww ?_
 refine qAe (qAr rfl rfl (ht) [0] (by decide) rfl rfl rfl rfl rfl rfl rfl) rfl ?_
 refine ww ?_
 refine wwc hN ?_
 refine ww ?_
 exact wwr
theorem bytesEq_spec (a b:List UInt8) (ha:a.length≤9223372036854775807) (hb:b.length≤9223372036854775807):Spec Tryz.prog 88 [.d (.sl 1 (qAg a)),.d (.sl 1 (qAg b))] [] (fun r h'=>r=.d (.bool (a == b))∧h'=[]):=by
 have h1:=encB_length a
 have h2:=encB_length b
 refine qAb hT Tryz.func88 rfl rfl rfl rfl ?_;intro E hE
 refine ww ?_
 refine qBs hT rfl rfl (byteCells_encB a) ?_
 rw [bytesOf_encB]
 refine ww ?_
 refine qBs hT rfl rfl (byteCells_encB b) ?_
 rw [bytesOf_encB]
 refine ww ?_
 exact wwr
theorem octSame_spec (a b:List UInt8) (ha:a.length≤9223372036854775807) (hb:b.length≤9223372036854775807):Spec Tryz.prog 71 [.d (.sl 1 (qAg a)),.d (.sl 1 (qAg b))] [] (fun r h'=>r=.d (.bool (a == b))∧h'=[]):=by
 have h:=bytesEq_spec a b ha hb
 refine qAb hT Tryz.func71 rfl rfl rfl rfl ?_;intro E hE
 refine ww ?_
 refine wwc h ?_
 refine ww ?_
 exact wwr
end Tdoc
namespace Tdoc
open Go
structure DInv (b:List UInt8) (i:Nat) (l:List Tp) (r:Nat×Bool):Prop where
 le:r.1≤b.length
 len:l.length=i
 hold:∀ p,p∈l→p.holder.length≤1000
 good:r.2=false→qGd i (b.drop 4)=some (l,b.drop r.1)
 bad:r.2=true→qDd b=none
def ptP (q:PtR):Tp:=⟨q.hold,(qQc q.key).1,q.rights,q.frm,q.til⟩
theorem keyD_ok {v:List UInt8} (h:(qQc v).2=0):v.length=4∧qCz ((nbN v:Nat):Int)=true∧(qQc v).1=((nbN v:Nat):Int):=by
 unfold qQc at h ⊢
 split at h
 ·simp at h
 split at h
 ·simp at h
 rename_i h1 h2
 rw [if_neg h1,if_neg h2]
 exact ⟨by simpa using h1,by simpa using h2,rfl⟩
theorem keyD_no {v:List UInt8} (h4:v.length=4) (h:(qQc v).2≠0):qCz ((nbN v:Nat):Int)=false:=by
 unfold qQc at h
 rw [if_neg (by omega)] at h
 split at h
 ·rename_i h2;exact h2
 ·exact absurd rfl h
theorem decTr_none_at {b:List UInt8} {i:Nat} (h:qGd i (b.drop 4)=none) (hi:i≤(b.getD 3 0).toNat):qDd b=none:=by
 obtain ⟨m,hm⟩:=Nat.exists_eq_add_of_le hi
 exact decTr_none (by rw [hm];exact ptsD_more h m)
theorem DInv.nokey {b:List UInt8} {i:Nat} {l:List Tp} {r:Nat×Bool} (h:DInv b i l r) (hi:i < (b.getD 3 0).toNat) (hk:(qQc (ptR b r).key).2≠0):qDd b=none:=by
 obtain ⟨a,s⟩:=r
 cases s with
 | true=>exact h.bad rfl
 | false =>
  have hg:=h.good rfl
  simp only at hg
  cases hp:ptD (b.drop a) with
  | none=>exact decTr_none_at (i:=i+1) (by rw [ptsD_snoc,hg];simp only [hp]) (by omega)
  | some q =>
   obtain ⟨p,x⟩:=q
   obtain ⟨_,k1,k2,_⟩:=ptR_some h.le hp
   refine decTr_key hg hp ?_ hi
   rw [← k1]
   exact keyD_no k2 hk
theorem ptR_le {b:List UInt8} {r:Nat×Bool} (h:r.1≤b.length):(ptR b r).r2.1≤b.length∧(ptR b r).hold.length≤255:=by
 have h1:=qGn (b:=b) 1 h
 have h2:=qGn (b:=b) (nbV (tk b r 1).1) h1.1
 have h3:=qGn (b:=b) 4 h2.1
 have h4:=qGn (b:=b) 2 h3.1
 have h5:=qGn (b:=b) 3 h4.1
 have h6:=qGn (b:=b) 3 h5.1
 have hn:=nbV_lt _ h1.2
 exact ⟨h6.1,Nat.le_trans h2.2 hn⟩
theorem DInv.next {b:List UInt8} {i:Nat} {l:List Tp} {r:Nat×Bool} (h:DInv b i l r) (hi:i < (b.getD 3 0).toNat) (hk:(qQc (ptR b r).key).2=0):DInv b (i+1) (l++[ptP (ptR b r)]) (ptR b r).r2:=by
 have hle:=ptR_le h.le
 refine ⟨hle.1,by rw [List.length_append,h.len];rfl,?_,?_,?_⟩
 ·intro p hp
  rcases List.mem_append.1 hp with hp | hp
  ·exact h.hold p hp
  ·rw [List.mem_singleton] at hp
   subst hp
   show (ptR b r).hold.length≤1000
   omega
 ·intro hs
  obtain ⟨a,s⟩:=r
  cases s with
  | true=>rw [(ptR_short rfl).2] at hs;cases hs
  | false =>
   have hg:=h.good rfl
   simp only at hg
   cases hp:ptD (b.drop a) with
   | none=>rw [ptR_none h.le hp] at hs;cases hs
   | some q =>
    obtain ⟨p,x⟩:=q
    obtain ⟨k0,k1,k2,k3,k4,k5,_,k7,k8⟩:=ptR_some h.le hp
    have hkk:=(keyD_ok hk).2.2
    have hkey:(qQc (ptR b (a,false)).key).1=p.key:=by rw [hkk];exact k1
    rw [ptsD_snoc,hg]
    simp only [hp]
    rw [k8]
    unfold ptP
    rw [k0,hkey,k3,k4,k5]
 ·intro hs
  obtain ⟨a,s⟩:=r
  cases s with
  | true=>exact h.bad rfl
  | false =>
   have hg:=h.good rfl
   simp only at hg
   cases hp:ptD (b.drop a) with
   | none=>exact decTr_none_at (i:=i+1) (by rw [ptsD_snoc,hg];simp only [hp]) (by omega)
   | some q =>
    obtain ⟨p,x⟩:=q
    obtain ⟨_,_,_,_,_,_,k6,_⟩:=ptR_some h.le hp
    rw [k6] at hs;cases hs
theorem DInv.done {b:List UInt8} {l:List Tp} {r:Nat×Bool} (hb:4≤b.length) (h:DInv b (b.getD 3 0).toNat l r) :
  qDd b=if r.2=true∨qBp l (qJw b)≠(b,0) then none else some (l,qJw b):=by
 obtain ⟨a,s⟩:=r
 cases s with
 | true=>rw [if_pos (.inl rfl)];exact h.bad rfl
 | false =>
  rw [decTr_some hb (h.good rfl)]
  by_cases he:qBp l (qJw b)=(b,0)
  ·rw [if_pos he,if_neg (by simp [he])]
  ·rw [if_neg he,if_pos (.inr he)]
theorem qVz {b:List UInt8} (hb:4≤b.length):tk b (0,false) 3=(b.take 3,(3,false))∧tk b (3,false) 1=([b.getD 3 0],(4,false)):=by
 refine ⟨by rw [qIb (by omega)];simp,?_⟩
 rw [qIb (by omega)]
 have:(b.drop 3).take 1=[b.getD 3 0]:=by
  rw [List.drop_eq_getElem_cons (by omega),List.take_succ_cons,List.take_zero,List.getD_eq_getElem?_getD,List.getElem?_eq_getElem (by omega)];rfl
 rw [this]
theorem qPn {b:List UInt8} (hb:b.length < 4):(tk b (tk b (0,false) 3).2 1).1=[]∧(tk b (tk b (0,false) 3).2 1).2.2=true∧(tk b (tk b (0,false) 3).2 1).2.1≤b.length:=by
 rcases Nat.lt_or_ge b.length 3 with h | h
 ·rw [qOl (by omega) (Nat.zero_le _)]
  simp [qHs 1 (r:=(0,true)) rfl]
 ·rw [qIb (a:=0) (n:=3) (by omega)]
  simp only
  rw [qOl (a:=0+3) (by omega) (by omega)]
  refine ⟨?_,?_,?_⟩ <;> first | exact trivial | rfl | (simp;omega)
theorem DInv.zero {b:List UInt8} (hb:4≤b.length):DInv b 0 [] (4,false):=⟨hb,rfl,(fun p hp=>by cases hp),(fun _=>rfl),(fun h=>by cases h)⟩
theorem DInv.few {b:List UInt8} (hb:b.length < 4) {r:Nat×Bool} (h1:r.1≤b.length) (h2:r.2=true):DInv b 0 [] r:=⟨h1,rfl,(fun p hp=>by cases hp),(fun h=>by rw [h2] at h;cases h),(fun _=>decTr_short hb)⟩
open Go Go.Proofs
def qXx (b:List UInt8) (n:Nat) (day:Int):Prop:=(b.length < 4∧n=0)∨(4≤b.length∧n=(b.getD 3 0).toNat∧day=qJw b)
theorem qWn (b:List UInt8):qXx b (nbV (tk b (tk b (0,false) 3).2 1).1) ((nbV (tk b (0,false) 3).1:Nat):Int)∧DInv b 0 [] (tk b (tk b (0,false) 3).2 1).2:=by
 rcases Nat.lt_or_ge b.length 4 with h | h
 ·obtain ⟨h1,h2,h3⟩:=qPn h
  exact ⟨.inl ⟨h,by rw [h1];rfl⟩,DInv.few h h3 h2⟩
 ·obtain ⟨h1,h2⟩:=qVz h
  rw [h1]
  simp only
  rw [h2]
  exact ⟨.inr ⟨h,nbV_one _,rfl⟩,DInv.zero h⟩
theorem qSk {b:List UInt8} {n:Nat} {day:Int} (hc:qXx b n day) {l:List Tp} {r:Nat×Bool} (h:DInv b n l r) :
  qDd b=if r.2=true∨(qBp l day).2≠0∨(qBp l day).1≠b then none else some (l,day):=by
 rcases hc with ⟨h4,rfl⟩ | ⟨h4,rfl,rfl⟩
 ·have hl:l=[]:=List.length_eq_zero_iff.1 h.len
  subst hl
  rw [if_pos (.inr (.inl (by unfold qBp qBk;simp)))]
  exact decTr_short h4
 ·rw [h.done h4]
  have e:(qBp l (qJw b)≠(b,0))↔((qBp l (qJw b)).2≠0∨(qBp l (qJw b)).1≠b):=by
   generalize qBp l (qJw b)=w
   obtain ⟨w1,w2⟩:=w
   simp only [ne_eq,Prod.mk.injEq]
   constructor
   ·intro hh
    by_cases h2:w2=0
    ·exact .inr fun h1=>hh ⟨h1,h2⟩
    ·exact .inl h2
   ·rintro (hh | hh) ⟨h1,h2⟩
    ·exact hh h2
    ·exact hh h1
  by_cases hr:r.2=true∨qBp l (qJw b)≠(b,0)
  ·rw [if_pos hr,if_pos (hr.imp id e.1)]
  ·rw [if_neg hr,if_neg (fun hh=>hr (hh.imp id e.2))]
def qXg:Option (List Tp×Int)→AV
 | some (l,d)=>.tup [.agg [.d (.sl 5 (qAp l)),.d (.int .i64 d)],.d (.int .i64 0)]
 | none=>.tup [.agg [.d (.sl 5 []),.d (.int .i64 0)],.d (.int .i64 1)]
theorem encTr_len (l:List Tp) (day:Int) (hl:l.length≤2) (hh:∀ p,p∈l→p.holder.length≤1000):(qBp l day).1.length≤3000:=by
 unfold qBp
 split
 ·exact Nat.zero_le _
 ·show (qBl l day).length≤3000
  unfold qBl
  match l,hl,hh with
  | [],_,_=>simp [qCq]
  | [p],_,hh =>
   have h1:=hh p (by simp)
   have:=tpB_len p
   simp [qCq];omega
  | [p,q],_,hh =>
   have h1:=hh p (by simp)
   have h2:=hh q (by simp)
   have:=tpB_len p
   have:=tpB_len q
   simp [qCq];omega
def dH (b:List UInt8) (l:List Tp) (day:Int) (r:Nat×Bool):List AObj :=
 [.row [.sl 5 [] .full,.I 0],.row (rdC b r),.row [.sl 5 (qAp l) (.right 3),.I day],.right 5 (qAp l).length]
theorem encTps_snoc (l:List Tp) (p:Tp):qAp (l++[p])=qAp l++[qEi p]:=by simp [qAp]
theorem decTr_spec (b:List UInt8) (hb:b.length≤9223372036854775807):Spec Tryz.prog 35 [.d (.sl 1 (qAg b))] [] (fun r h'=>r=qXg (qDd b)∧h'=[]):=by
 have hl:=encB_length b
 have z1:=qCt b (0,false) 3 hb (Nat.zero_le _) (by omega)
 have k1:=(qGn (b:=b) (r:=(0,false)) 3 (Nat.zero_le _)).1
 have z2:=qCt b (tk b (0,false) 3).2 1 hb k1 (by omega)
 obtain ⟨hc,hi0⟩:=qWn b
 generalize tk b (0,false) 3=q1 at *
 generalize tk b q1.2 1=q2 at *
 generalize ((nbV q1.1:Nat):Int)=day at *
 generalize nbV q2.1=n at *
 refine qAb hT Tryz.func35 rfl rfl rfl rfl ?_;intro E hE
 refine ww ?_
 refine qAe (qBn (v:=.I day) (H':=[.row [.sl 5 [] .full,.I 0],.row (rdC b q1.2)]) rfl rfl z1 [1] (by decide) rfl rfl rfl rfl rfl rfl rfl) rfl ?_
 refine ww ?_
 refine qAe (qBn (v:=.I (n:Int)) (H':=[.row [.sl 5 [] .full,.I 0],.row (rdC b q2.2),.row [.sl 5 [] .full,.I day]]) rfl rfl z2 [1] (by decide) rfl rfl rfl rfl rfl rfl rfl) rfl ?_
 refine ww ?_
 refine qAa rfl (fun c1=>?_) (fun c1=>?_)
 ·have h2:2 < n:=by simp at c1;omega
  have e:qDd b=none:=decTr_many (by rcases hc with ⟨_,h⟩ | ⟨_,h,_⟩ <;> omega)
  rw [e]
  refine ww ?_
  exact wwr
 have h2:n≤2:=by simp at c1;omega
 clear c1
 refine wwn ?_
 refine qAi (qGa 2 0 3 5 (es:=[]) rfl rfl rfl ?_)
 refine qBq (ι:=Nat×List Tp×(Nat×Bool)) (fun x=>[(0,.d (.sl 1 (qAg b))),(2,.ptr 0 0),(4,.ptr 1 0),(5,.ptr 2 0),(23,.I (n:Int)),(24,.I (x.1:Int))]) (fun x=>dH b x.2.1 day x.2.2)
  (fun x=>x.1≤n∧DInv b x.1 x.2.1 x.2.2) (fun x=>n-x.1) (0,[],q2.2) ⟨Nat.zero_le _,hi0⟩ yf (HLe.refl _) ?_
 rintro ⟨i,l,r⟩ ⟨hi,hI⟩
 simp only at hi hI ⊢
 refine wwn ?_
 refine qAa rfl (fun c2=>?_) (fun c2=>?_)
 ·have hi':i < n:=by simpa using c2
  have hg:i < (b.getD 3 0).toNat:=by rcases hc with ⟨_,h⟩ | ⟨_,h,_⟩ <;> omega
  have F1:=hI.nokey hg
  have F2:=hI.next hg
  have s1:=qCt b r 1 hb hI.le (by omega)
  have l1:=qGn (b:=b) 1 hI.le
  have s2:=qIc b (tk b r 1).2 (nbV (tk b r 1).1) hb l1.1 (by have:=nbV_lt _ l1.2;omega)
  have l2:=qGn (b:=b) (nbV (tk b r 1).1) l1.1
  have s3:=qIc b _ 4 hb l2.1 (by omega)
  have l3:=qGn (b:=b) 4 l2.1
  have sk:=qTl (tk b (tk b (tk b r 1).2 (nbV (tk b r 1).1)).2 4).1 (by have:=l3.2;omega)
  have s4:=qCt b _ 2 hb l3.1 (by omega)
  have l4:=qGn (b:=b) 2 l3.1
  have s5:=qCt b _ 3 hb l4.1 (by omega)
  have l5:=qGn (b:=b) 3 l4.1
  have s6:=qCt b _ 3 hb l5.1 (by omega)
  clear l1 l2 l3 l4 l5
  unfold ptP ptR at F2
  unfold ptR at F1
  simp only at F1 F2
  have hlen:(qAp l).length=i:=by rw [encTps_length,hI.len]
  generalize tk b r 1=q3 at *
  generalize tk b q3.2 (nbV q3.1)=q4 at *
  generalize nbV q3.1=m at *
  generalize tk b q4.2 4=q5 at *
  generalize tk b q5.2 2=q6 at *
  generalize tk b q6.2 3=q7 at *
  generalize tk b q7.2 3=q8 at *
  generalize qQc q5.1=kd at *
  obtain ⟨key,ke⟩:=kd
  simp only at F1 F2 sk
  generalize ((nbV q6.1:Nat):Int)=rights at *
  generalize ((nbV q7.1:Nat):Int)=frm at *
  generalize ((nbV q8.1:Nat):Int)=til at *
  refine wwn ?_
  refine qAe (qBn (v:=.I (m:Int)) (H':=dH b l day q3.2) rfl rfl s1 [1] (by decide) rfl rfl rfl rfl rfl rfl rfl) rfl ?_
  refine wwn ?_
  refine qAe (qBn (v:=.d (.sl 1 (qAg q4.1))) (H':=dH b l day q4.2) rfl rfl s2 [1] (by decide) rfl rfl rfl rfl rfl rfl rfl) rfl ?_
  refine wwn ?_
  refine qBs hT rfl rfl (byteCells_encB q4.1) ?_
  rw [bytesOf_encB]
  refine wwn ?_
  refine qAe (qBn (v:=.d (.sl 1 (qAg q5.1))) (H':=dH b l day q5.2++[.row [.d (.str q4.1),.I 0,.I 0,.I 0,.I 0]]) rfl rfl s3 [1] (by decide) rfl rfl rfl rfl rfl rfl rfl) rfl ?_
  refine wwn ?_
  refine wwc sk ?_
  refine wwn ?_
  refine qAa rfl (fun c3=>?_) (fun c3=>?_)
  ·rw [F1 (by simpa using c3)]
   refine wwn ?_
   exact wwr
  have hk:ke=0:=by simpa using c3
  subst hk
  refine wwn ?_
  refine qAe (qBn (v:=.I rights) (H':=dH b l day q6.2++[.row [.d (.str q4.1),.I 0,.I 0,.I 0,.I 0]]) rfl rfl s4 [1] (by decide) rfl rfl rfl rfl rfl rfl rfl) rfl ?_
  refine wwn ?_
  refine qAe (qBn (v:=.I frm) (H':=dH b l day q7.2++[.row [.d (.str q4.1),.I 0,.I 0,.I 0,.I 0]]) rfl rfl s5 [1] (by decide) rfl rfl rfl rfl rfl rfl rfl) rfl ?_
  refine wwn ?_
  refine qAe (qBn (v:=.I til) (H':=dH b l day q8.2++[.row [.d (.str q4.1),.I 0,.I 0,.I 0,.I 0]]) rfl rfl s6 [1] (by decide) rfl rfl rfl rfl rfl rfl rfl) rfl ?_
  refine wwn ?_
  refine qAe (qAn (i:=3) (es2:=[qEi ⟨q4.1,key,rights,frm,til⟩]) hT rfl rfl rfl rfl rfl rfl (by show ((qAp l).length+1)*(48+1)≤_;omega)) rfl ?_
  rw [← encTps_snoc]
  refine wwn ?_
  exact ⟨(i+1,l++[⟨q4.1,key,rights,frm,til⟩],q8.2),[_],⟨by simp only;omega,F2 rfl⟩,by simp only;omega,⟨.refl _,.refl _,.refl _,.refl _,.refl _,.int (by simp only;rw [qAj (by omega)];omega),trivial⟩,HLe.refl _,Env.below_mono hE (by simp),rfl,rfl⟩
 have hi':i=n:=by simp at c2;omega
 subst hi'
 have hd:=qSk hc hI
 have hE2:=trEnc_spec l day (by have:=hI.len;omega) (fun p hp=>by have:=hI.hold p hp;omega)
 have hw:=encTr_len l day (by rw [hI.len];exact h2) hI.hold
 generalize qBp l day=w at hd hE2 hw
 obtain ⟨w,we⟩:=w
 simp only at hw
 have hS:=octSame_spec w b (by omega) hb
 obtain ⟨rp,rs⟩:=r
 simp only at hd hE2
 rw [hd]
 refine wwe ?_
 refine qAs (l:=[(0,.d (.sl 1 (qAg b))),(2,.ptr 0 0),(4,.ptr 1 0),(5,.ptr 2 0)]) (h':=[.row [.sl 5 [] .full,.I 0],.row (rdC b (rp,rs)),.row [.d (.sl 5 (qAp l)),.I day],.dead]) yf ⟨ObLe.refl _,ObLe.refl _,⟨AV.le.dat,.refl _,trivial⟩,trivial,trivial⟩ ?_
 refine wwn ?_
 refine wwc hE2 ?_
 refine wwn ?_
 refine wwgc hS ?_
 refine wwn ?_
 refine qAa rfl (fun c4=>?_) (fun c4=>?_)
 ·rw [if_pos (by cases rs <;> simp at c4 ⊢;(first | done | exact Decidable.or_iff_not_imp_left.2 c4 | (rcases c4 with h | h <;> simp [h])))]
  refine wwn ?_
  exact wwr
 rw [if_neg (by cases rs <;> simp at c4 ⊢;(first | done | exact c4))]
 refine wwn ?_
 exact wwr
def qTy:Option (Int×Int×List UInt8×List Tp×Int)→AV
 | some (pr,ur,pin,l,day)=>.tup [.agg [.d (.int .i64 pr),.d (.int .i64 ur),.d (.sl 1 (qAg pin)),.d (.sl 5 (qAp l)),.d (.int .i64 day)],.d (.int .i64 0)]
 | none=>.tup [.agg [.d (.int .i64 0),.d (.int .i64 0),.d (.sl 1 []),.d (.sl 5 []),.d (.int .i64 0)],.d (.int .i64 1)]
theorem decRc_few {b:List UInt8} (h:b.length < 3):qGs b=none:=by unfold qGs;rw [if_pos (.inl h)]
theorem decRc_eq (x0 x1 x2:UInt8) (r:List UInt8):qGs (x0::x1::x2::r)=if 15 < x0.toNat∨15 < x1.toNat∨16 < x2.toNat∨r.length < x2.toNat then none else match qDd (r.drop x2.toNat) with
  | none=>none
  | some (l,day)=>some ((x0.toNat:Int),(x1.toNat:Int),r.take x2.toNat,l,day):=by
 unfold qGs
 have g0:(x0::x1::x2::r).getD 0 0=x0:=rfl
 have g1:(x0::x1::x2::r).getD 1 0=x1:=rfl
 have g2:(x0::x1::x2::r).getD 2 0=x2:=rfl
 have hl:(x0::x1::x2::r).length=r.length+3:=rfl
 have d:(x0::x1::x2::r).drop (3+x2.toNat)=r.drop x2.toNat:=by rw [← List.drop_drop];rfl
 rw [g0,g1,g2,hl,d]
 by_cases h:15 < x0.toNat∨15 < x1.toNat∨16 < x2.toNat∨r.length < x2.toNat
 ·rw [if_pos h,if_pos (by omega)]
 ·rw [if_neg h,if_neg (by omega)];rfl
theorem decRc_spec (b:List UInt8) (hb:b.length≤9223372036854775807):Spec Tryz.prog 13 [.d (.sl 1 (qAg b))] [] (fun r h'=>r=qTy (qGs b)∧h'=[]):=by
 by_cases h3:b.length < 3
 ·rw [decRc_few h3]
  have hn:decide (((qAg b).length:Int) < 3)=true:=by rw [encB_length];simp;omega
  refine qAb hT Tryz.func13 rfl rfl rfl rfl ?_;intro E hE
  refine wwk hn ?_
  refine qAa rfl (fun c1=>?_) (fun c1=>?_)
  ·refine ww ?_
   exact wwr
  ·rw [hn] at c1
   exact absurd c1 (by simp)
 match b,h3,hb with
 | [],h3,_=>exact absurd (by simp) h3
 | [_],h3,_=>exact absurd (by simp) h3
 | [_,_],h3,_=>exact absurd (by simp) h3
 | x0::x1::x2::r,h3,hb =>
  rw [decRc_eq]
  have hl:(qAg (x0::x1::x2::r)).length=r.length+3:=by rw [encB_length];rfl
  have e0:(qAg (x0::x1::x2::r))[((0:Int)).toNat]?=some [.int .u8 (x0.toNat:Int)]:=rfl
  have e1:(qAg (x0::x1::x2::r))[((1:Int)).toNat]?=some [.int .u8 (x1.toNat:Int)]:=rfl
  have e2:(qAg (x0::x1::x2::r))[((2:Int)).toNat]?=some [.int .u8 (x2.toNat:Int)]:=rfl
  have d:(x0::x1::x2::r).drop (3+x2.toNat)=r.drop x2.toNat:=by rw [← List.drop_drop];rfl
  have t:((x0::x1::x2::r).drop 3).take x2.toNat=r.take x2.toNat:=rfl
  have hlb:(x0::x1::x2::r).length=r.length+3:=rfl
  have hDe:=decTr_spec (r.drop x2.toNat) (by rw [List.length_drop];omega)
  have k0:=x0.toNat_lt;have k1:=x1.toNat_lt;have k2:=x2.toNat_lt
  generalize x0::x1::x2::r=b at *
  generalize x0.toNat=n0 at *;generalize x1.toNat=n1 at *;generalize x2.toNat=n2 at *
  have w2:IntKind.i64.wrap (n2:Int)=(n2:Int):=qAj (by omega)
  have w3:IntKind.i64.wrap (3+(n2:Int))=((3+n2:Nat):Int):=by rw [qAj (by omega)];simp
  refine qAb hT Tryz.func13 rfl rfl rfl rfl ?_;intro E hE
  refine ww ?_
  refine wwgi e0 ?_
  refine ww ?_
  refine wwgi e1 ?_
  refine ww ?_
  refine wwgi e2 ?_
  refine ww ?_
  refine wwgi e2 ?_
  refine ww ?_
  refine qAa rfl (fun c1=>?_) (fun c1=>?_)
  ·rw [w2,w3,hl] at c1
   rw [if_pos (by simp at c1;omega)]
   refine ww ?_
   exact wwr
  rw [w2,w3,hl] at c1
  have hc:¬ (15 < n0∨15 < n1∨16 < n2∨r.length < n2):=by simp at c1;omega
  rw [if_neg hc]
  refine ww ?_
  refine wwi e2 ?_
  refine ww ?_
  rw [w2,w3]
  refine ww ?_
  have dr:(qAg b).drop (((3+n2:Nat):Int)).toNat=qAg (r.drop n2):=by rw [encB_drop];exact congrArg qAg d
  rw [dr]
  generalize qDd (r.drop n2)=o at hDe ⊢
  cases o with
  | none =>
   simp only [qXg] at hDe ⊢
   refine wwc hDe ?_
   refine ww ?_
   refine qAa rfl (fun c4=>?_) (fun c4=>?_)
   ·refine ww ?_
    exact wwr
   ·exact absurd c4 (by simp)
  | some w =>
   obtain ⟨l,day⟩:=w
   simp only [qXg] at hDe ⊢
   refine wwc hDe ?_
   refine ww ?_
   refine qAa rfl (fun c4=>?_) (fun c4=>?_)
   ·exact absurd c4 (by simp)
   have hcl:=qIy (qAg (r.take n2)) (by rw [encB_length,List.length_take];omega)
   have cu:qHx (qAg b) (3:Int) ((3+n2:Nat):Int)=qAg (r.take n2):=by
    unfold qHx
    rw [encB_drop,encB_take,← t]
    show qAg ((b.drop 3).take (3+n2-3))=_
    rw [Nat.add_sub_cancel_left]
   have v0:IntKind.i64.wrap (n0:Int)=(n0:Int):=qAj (by omega)
   have v1:IntKind.i64.wrap (n1:Int)=(n1:Int):=qAj (by omega)
   refine wwn ?_
   refine qDg (fun i=>bif Nat.beq i 12 then [1] else bif Nat.beq i 14 then [0] else []) (fun i=>bif Nat.beq i 14 then [0] else []) mixed (by kernel_rfl) ?_
   refine wwg ?_
   refine qAm (os:=[]) (fun k hk1 hk2=>qAd (indexAddr_ok hT rfl rfl rfl rfl (by omega) e0)) rfl ?_
   refine wwg ?_
   refine qAm (os:=[]) (fun k hk1 hk2=>qAd (indexAddr_ok hT rfl rfl rfl rfl (by omega) e1)) rfl ?_
   refine wwg ?_
   rw [cu]
   refine wwdc hcl ?_
   rw [v0,v1]
   refine wwg ?_
   refine ww ?_
   exact wwr
theorem qEf (v:List UInt8) (hv:v.length≤7):Spec Tryz.prog 72 [.d (.sl 1 (qAg v))] [] (fun r h'=>r=.I ((nbV v:Nat):Int)∧h'=[]):=by
 have hl:=encB_length v
 refine qAb hT Tryz.func72 rfl rfl rfl rfl ?_;intro E hE
 refine ww ?_
 refine qAw (ι:=Nat) (fun i=>[(0,.d (.sl 1 (qAg v))),(3,.I ((nbV (v.take i):Nat):Int)),(4,.I (i:Int))]) (fun i=>[]) (fun i=>i≤v.length) (fun i=>v.length-i) 0 (Nat.zero_le _)
  yf (HLe.refl _) ?_
 intro i hi
 have hlt:nbV (v.take i) < 256 ^ (v.take i).length:=nbN_lt _
 have htl:(v.take i).length=i:=by rw [List.length_take];omega
 rw [htl] at hlt
 refine ww ?_
 refine qAa rfl (fun c1=>?_) (fun c1=>?_)
 ·have hi':i < v.length:=by rw [hl] at c1;simpa using c1
  have hp:256 ^ i≤256 ^ 6:=Nat.pow_le_pow_right (by omega) (by omega)
  have hq:(256:Nat) ^ 6=281474976710656:=by decide
  have he:=encB_at hi'
  have hs:nbV (v.take (i+1))=256*nbV (v.take i)+v[i].toNat:=by rw [List.take_succ_eq_append_getElem hi',nbV_snoc]
  have hc:=v[i].toNat_lt
  generalize nbV (v.take i)=m at *
  generalize v[i].toNat=c at *
  have hei:(qAg v)[((i:Int)).toNat]?=some [.int .u8 (c:Int)]:=he
  refine ww ?_
  refine wwi hei ?_
  refine ww ?_
  refine ⟨i+1,hi',by omega,⟨.refl _,.int ?_,.int ?_,trivial⟩,HLe.refl _⟩
  ·rw [qAj (n:=(m:Int)*256) (by omega),qAj (n:=(c:Int)) (by omega),qAj (by omega)];omega
  ·rw [qAj (by omega)];omega
 ·have hi':i=v.length:=by rw [hl] at c1;simp at c1;omega
  subst hi'
  rw [List.take_of_length_le (Nat.le_refl _)]
  refine ww ?_
  exact wwr
end Tdoc
namespace Tdoc
open Go
structure RInv (b:List UInt8) (i:Nat) (l:List Tp) (a:Nat):Prop where
 le:a≤b.length
 len:l.length=i
 hold:∀ p,p∈l→p.holder.length≤1000
 pts:qGd i (b.drop 4)=some (l,b.drop a)
def qYg (b:List UInt8) (a m:Nat):Tp:=⟨(b.drop (a+1)).take m,(nbV ((b.drop (a+1+m)).take 4):Nat),(nbV (((b.drop (a+1+m)).drop 4).take 2):Nat),(nbV (((b.drop (a+1+m)).drop 6).take 3):Nat),(nbV (((b.drop (a+1+m)).drop 9).take 3):Nat)⟩
theorem RInv.zero {b:List UInt8} (hb:4≤b.length):RInv b 0 [] 4:=⟨hb,rfl,(fun p hp=>by cases hp),rfl⟩
theorem ptD_at (b:List UInt8) (a:Nat):ptD (b.drop a)=if b.length≤a∨b.length < a+1+(b.getD a 0).toNat+12 then none else some (qYg b a (b.getD a 0).toNat,b.drop (a+1+(b.getD a 0).toNat+12)):=by
 rcases Nat.lt_or_ge a b.length with h | h
 ·have e:b.drop a=b.getD a 0::b.drop (a+1):=by
   rw [List.drop_eq_getElem_cons h,List.getD_eq_getElem?_getD,List.getElem?_eq_getElem h];rfl
  rw [e,ptD]
  generalize b.getD a 0=c
  have hl:(b.drop (a+1)).length=b.length-(a+1):=List.length_drop
  have hd:∀ k,(b.drop (a+1)).drop k=b.drop (a+1+k):=fun k=>by rw [List.drop_drop]
  by_cases hh:(b.drop (a+1)).length < c.toNat+12
  ·rw [if_pos hh,if_pos (by omega)]
  ·rw [if_neg hh,if_neg (by omega)]
   unfold qYg
   rw [hd,← List.drop_drop (i:=12) (j:=a+1+c.toNat)]
 ·rw [if_pos (.inl h),List.drop_eq_nil_of_le h,ptD]
theorem RInv.stop {b:List UInt8} {i:Nat} {l:List Tp} {a:Nat} (h:RInv b i l a) (hi:i < (b.getD 3 0).toNat) (hx:b.length≤a∨b.length < a+1+(b.getD a 0).toNat+12):qDd b=none :=
 decTr_none_at (i:=i+1) (by rw [ptsD_snoc,h.pts];simp only [ptD_at,if_pos hx]) (by omega)
theorem RInv.next {b:List UInt8} {i:Nat} {l:List Tp} {a:Nat} (h:RInv b i l a) (hx:¬ (b.length≤a∨b.length < a+1+(b.getD a 0).toNat+12)):RInv b (i+1) (l++[qYg b a (b.getD a 0).toNat]) (a+1+(b.getD a 0).toNat+12):=by
 have hc:=(b.getD a 0).toNat_lt
 refine ⟨by omega,by rw [List.length_append,h.len];rfl,?_,by rw [ptsD_snoc,h.pts];simp only [ptD_at,if_neg hx]⟩
 intro p hp
 rcases List.mem_append.1 hp with hp | hp
 ·exact h.hold p hp
 ·rw [List.mem_singleton] at hp
  subst hp
  show ((b.drop (a+1)).take (b.getD a 0).toNat).length≤1000
  rw [List.length_take]
  omega
theorem encTr_many {l:List Tp} (h:2 < l.length) (day:Int):(qBp l day).2≠0:=by
 unfold qBp
 split
 ·rename_i hv;exact hv
 ·rename_i hv
  have:=(validTr_get (by simpa using hv)).2.1
  omega
theorem RInv.done {b:List UInt8} {i:Nat} {l:List Tp} {a:Nat} (hb:4≤b.length) (h:RInv b i l a) (hi:i=(b.getD 3 0).toNat∨(2 < i∧i≤(b.getD 3 0).toNat)) :
  qDd b=if (qBp l (qJw b)).2≠0∨(qBp l (qJw b)).1≠b then none else some (l,qJw b):=by
 by_cases h2:2 < i
 ·rw [if_pos (.inl (encTr_many (by rw [h.len];exact h2) _))]
  exact decTr_many (by omega)
 ·have hi':i=(b.getD 3 0).toNat:=by omega
  have hp:=h.pts
  rw [hi'] at hp
  rw [decTr_some hb hp]
  generalize qBp l (qJw b)=w
  obtain ⟨w1,w2⟩:=w
  by_cases he:(w1,w2)=(b,(0:Int))
  ·rw [if_pos he]
   cases he
   rw [if_neg (by simp)]
  ·rw [if_neg he,if_pos]
   by_cases h0:w2=0
   ·exact .inr fun h1=>he (by rw [h0];exact congrArg (·,(0:Int)) h1)
   ·exact .inl h0
end Tdoc
