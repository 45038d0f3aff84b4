/- Part 11 of the proof: the texts XM XN XO NQ NR NS NT NU Y5 ZF ZG ZI ZH Y6 RA RB0 RB JA JB KI KH J1 JC J2 J3 J4 J5. -/
import Derived.Test.YtelocejblpajcaaGreatDoorBG10
import Derived.Test.YtelocejblpajcaaGreatDoorBG6
set_option maxHeartbeats 8000000
set_option maxRecDepth 100000
set_option linter.unusedVariables false
set_option linter.unusedSimpArgs false
namespace Tdoc
open Go Go.Proofs
theorem qZr (p:Int):Spec Tryz.prog 354 [.d (.int .i64 p)] [] (fun r h'=>r=.d (.bool (decide (p≥2)&&decide (p≤6)))∧h'=[]):=by
 refine qAb hT Tryz.func354 rfl rfl rfl rfl ?_;intro E hE
 refine ww ?_
 exact wwr
theorem qNn (p:Int):Spec Tryz.prog 292 [.d (.int .i64 p)] [] (fun r h'=>r=.d (.bool (p == 2||p == 3))∧h'=[]):=by
 refine qAb hT Tryz.func292 rfl rfl rfl rfl ?_;intro E hE
 refine ww ?_
 exact wwr
theorem qTg (b:Bool) (n:Int):Spec Tryz.prog 355 [.d (.bool b),.d (.int .i64 n)] [] (fun r h'=>r=.d (.int .i64 (if b=true then n else 0))∧h'=[]):=by
 refine qAb hT Tryz.func355 rfl rfl rfl rfl ?_;intro E hE
 refine ww ?_
 refine qAa rfl (fun c1=>?_) (fun c1=>?_)
 ·rw [if_pos c1]
  refine ww ?_
  exact wwr
 ·rw [if_neg (by rw [c1];simp)]
  refine ww ?_
  exact wwr
theorem checkI_spec (x:Inf):Spec Tryz.prog 287 [.agg (qQc x)] [] (fun r h'=>r=.d (.int .i64 (infE x))∧h'=[]):=by
 obtain ⟨p,v,a,k,d⟩:=x
 have hK:=qZr p
 have hM:=qNn p
 have hm1:=qTg (p == 2||p == 3) 31
 have hm2:=qTg (p == 4) 255
 have hE2:=qFv k
 have e1:(if (p == 2||p == 3)=true then (31:Int) else 0)=vKk p:=by unfold vKk;simp
 have e2:(if (p == 4)=true then (255:Int) else 0)=vKq p:=by unfold vKq;simp
 rw [e1] at hm1
 rw [e2] at hm2
 unfold infE qQc
 simp only
 generalize qDe k=el at hE2
 generalize vKk p=pm at hm1
 generalize vKq p=km at hm2
 refine qAb hT Tryz.func287 rfl rfl rfl rfl ?_;intro E hE
 refine qAj ?_
 refine wwe ?_
 refine qAk (qAg ?_)
 refine qAd (boxAt_ok (i0:=0) rfl rfl rfl) rfl ?_
 refine ww ?_
 refine wwc hK ?_
 refine ww ?_
 refine qAa rfl (fun c1=>?_) (fun c1=>?_)
 ·have c1':p < 2∨p > 6:=by simp at c1;omega
  rw [if_pos c1']
  refine ww ?_
  exact wwr
 have c1':¬ (p < 2∨p > 6):=by simp at c1;omega
 rw [if_neg c1']
 refine ww ?_
 refine qAa rfl (fun c2=>?_) (fun c2=>?_)
 ·have c2':v < 1∨v > 255∨a < 0∨a > pm∨d < 0∨d > km:=by simp only [Bool.or_eq_true,decide_eq_true_eq] at c2;omega
  rw [if_pos c2']
  refine ww ?_
  exact wwr
 simp only [Bool.or_eq_false_iff,decide_eq_false_iff_not] at c2
 refine ww ?_
 refine wwgc hM ?_
 refine ww ?_
 refine wwgc hm1 ?_
 refine ww ?_
 refine qAa rfl (fun c3=>?_) (fun c3=>?_)
 ·have c3':v < 1∨v > 255∨a < 0∨a > pm∨d < 0∨d > km:=by simp only [Bool.or_eq_true,decide_eq_true_eq] at c3;omega
  rw [if_pos c3']
  refine ww ?_
  exact wwr
 simp only [Bool.or_eq_false_iff,decide_eq_false_iff_not] at c3
 refine ww ?_
 refine wwgc hm2 ?_
 refine ww ?_
 refine qAa rfl (fun c4=>?_) (fun c4=>?_)
 ·have c4':v < 1∨v > 255∨a < 0∨a > pm∨d < 0∨d > km:=by simp only [Bool.or_eq_true,decide_eq_true_eq] at c4;omega
  rw [if_pos c4']
  refine ww ?_
  exact wwr
 simp only [Bool.or_eq_false_iff,decide_eq_false_iff_not] at c4
 rw [if_neg (by omega)]
 refine ww ?_
 refine wwgc hE2 ?_
 refine ww ?_
 have hc:((p == 4&&!el)||(!(p == 4)&&k != 0))=decide ((p=4∧el=false)∨(p≠4∧k≠0)):=by
  by_cases h4:p=4 <;> cases el <;> by_cases hk:k=0 <;> simp [h4,hk]
 refine qAa rfl (fun c5=>?_) (fun c5=>?_)
 ·have c5':(p=4∧el=false)∨(p≠4∧k≠0):=by rw [hc] at c5;simpa using c5
  rw [if_pos c5']
  refine ww ?_
  exact wwr
 have c5':¬ ((p=4∧el=false)∨(p≠4∧k≠0)):=by rw [hc] at c5;exact of_decide_eq_false c5
 rw [if_neg c5']
 refine wwe ?_
 refine ww ?_
 exact wwr
end Tdoc
namespace Tdoc
open Go Go.Proofs
def vDf (a b:Int):Int:=if a < b then -1 else if a > b then 1 else 0
def orI (a b:Int):Int:=if a≠0 then a else b
theorem orI_infO (p x:Inf):decide (orI (vDf p.proto x.proto) (vDf p.kid x.kid)≥0)=vIx p x:=by
 unfold orI vDf vIx
 rw [Bool.eq_iff_iff]
 simp only [decide_eq_true_eq]
 split <;> split <;> (try split) <;> (try split) <;> (try split) <;> omega
theorem isNaN_spec (a:Int):Spec Tryz.prog 356 [.d (.int .i64 a)] [] (fun r h'=>r=.d (.bool false)∧h'=[]):=by
 have h:(a != a)=false:=by simp
 refine qAb hT Tryz.func356 rfl rfl rfl rfl ?_;intro E hE
 refine ww ?_
 rw [h]
 exact wwr
theorem qMb (a b:Int):Spec Tryz.prog 289 [.d (.int .i64 a),.d (.int .i64 b)] [] (fun r h'=>r=.d (.int .i64 (vDf a b))∧h'=[]):=by
 have h1:=isNaN_spec a
 have h2:=isNaN_spec b
 unfold vDf
 refine qAb hT Tryz.func289 rfl rfl rfl rfl ?_;intro E hE
 refine ww ?_
 refine wwc h1 ?_
 refine ww ?_
 refine wwc h2 ?_
 refine ww ?_
 refine qAa rfl (fun c1=>?_) (fun c1=>?_)
 ·exact absurd c1 (by simp)
 refine ww ?_
 refine qAa rfl (fun c2=>?_) (fun c2=>?_)
 ·exact absurd c2 (by simp)
 refine ww ?_
 refine qAa rfl (fun c3=>?_) (fun c3=>?_)
 ·rw [if_pos (by simpa using c3)]
  refine ww ?_
  exact wwr
 rw [if_neg (by simpa using c3)]
 refine ww ?_
 refine qAa rfl (fun c4=>?_) (fun c4=>?_)
 ·rw [if_pos (by simpa using c4)]
  refine ww ?_
  exact wwr
 rw [if_neg (by simpa using c4)]
 refine ww ?_
 exact wwr
theorem vJq (a b:Int):Spec Tryz.prog 288 [.d (.sl 1 (qNy [a,b]))] [] (fun r h'=>r=.d (.int .i64 (orI a b))∧h'=[]):=by
 unfold orI
 generalize hfin:(if a≠0 then a else b)=fin
 have hlen:(qNy [a,b]).length=2:=rfl
 refine qAb hT Tryz.func288 rfl rfl rfl rfl ?_;intro E hE
 refine ww ?_
 refine qAp (ι:=Nat) (fun i=>[(3,.d (.int .i64 0)),(6,.d (.sl 1 (qNy [a,b]))),(7,.d (.int .i64 ((qNy [a,b]).length:Int))),(8,.d (.int .i64 (i:Int)))]) (fun _=>[]) (fun i=>i≤2∧(1≤i→a=0)∧(2≤i→b=0)) (fun i=>2-i) 0 (by omega) ⟨.refl _,.refl _,.refl _,.refl _,trivial⟩ (HLe.refl _) ?_
 rintro i ⟨hi,ha,hb⟩
 have hwr:IntKind.i64.wrap ((i:Int)+1)=((i+1:Nat):Int):=by rw [qAf (by omega)];omega
 refine ww ?_
 refine qAa rfl (fun c1=>?_) (fun c1=>?_)
 ·have hlt:i < 2:=by rw [hlen] at c1;simp at c1;omega
  have hel:=encI_at (l:=[a,b]) (i:=i) hlt
  have hv:i=0∧([a,b]:List Int)[i]=a∨i=1∧([a,b]:List Int)[i]=b:=by
   match i,hlt with
   | 0,_=>exact .inl ⟨rfl,rfl⟩
   | 1,_=>exact .inr ⟨rfl,rfl⟩
  generalize ([a,b]:List Int)[i]=c at hel hv
  refine ww ?_
  refine wwi hel ?_
  refine ww ?_
  refine qAa rfl (fun c2=>?_) (fun c2=>?_)
  ·have hc:c=fin:=by
    have:c≠0:=by simpa using c2
    rw [← hfin]
    rcases hv with ⟨h0,h1⟩ | ⟨h0,h1⟩
    ·rw [if_pos (by omega)];exact h1
    ·rw [if_neg (by have:=ha (by omega);omega)];exact h1
   subst hc
   refine ww ?_
   exact wwr
  have hc:c=0:=by simpa using c2
  refine ww ?_
  exact ⟨i+1,⟨by omega,by omega,by omega⟩,by omega,⟨.refl _,.refl _,.refl _,.int hwr,trivial⟩,HLe.refl _⟩
 ·have hge:i=2:=by rw [hlen] at c1;simp at c1;omega
  have h0:fin=0:=by rw [← hfin];have:=ha (by omega);have:=hb (by omega);split <;> omega
  subst h0
  refine ww ?_
  exact wwr
end Tdoc
namespace Tdoc
open Go Go.Proofs
def qVs (l:List Inf) (i:Nat):Option Inf:=if i=0 then none else l[i-1]?
theorem qOh (l:List Inf) (hl:l.length≤1000000):Spec Tryz.prog 188 [.d (.sl 5 (qFm l))] [] (fun r h'=>r=.d (.int .i64 (validI l))∧h'=[]):=by
 have hll:=encFs_length l
 unfold validI
 by_cases h1:l.length > 16
 case pos =>
  rw [if_pos h1]
  refine qAb hT Tryz.func188 rfl rfl rfl rfl ?_;intro E hE
  refine ww ?_
  refine qAa rfl (fun c1=>?_) (fun c1=>?_)
  ·refine ww ?_
   exact wwr
  ·exfalso
   rw [hll] at c1
   simp at c1
   omega
 rw [if_neg h1]
 generalize hfin:vBd none l=fin
 refine qAb hT Tryz.func188 rfl rfl rfl rfl ?_;intro E hE
 refine ww ?_
 refine qAa rfl (fun c1=>?_) (fun c1=>?_)
 ·exfalso
  rw [hll] at c1
  simp at c1
  omega
 refine ww ?_
 refine qBt (ι:=Nat) (fun i=>[(0,.d (.sl 5 (qFm l))),(9,.d (.sl 5 (qFm l))),(10,.d (.int .i64 ((qFm l).length:Int))),(11,.d (.int .i64 (i:Int)))]) (fun _=>[])
  (fun i=>i≤l.length∧vBd (qVs l i) (l.drop i)=fin) (fun i=>l.length-i) 0 ⟨by omega,by simpa [qVs] using hfin⟩ ⟨.refl _,.refl _,.refl _,.refl _,trivial⟩ (HLe.refl _) ?_
 rintro i ⟨hi,hg⟩
 have hwr:IntKind.i64.wrap ((i:Int)+1)=((i+1:Nat):Int):=by rw [qAf (by omega)];simp
 refine ww ?_
 refine qAa rfl (fun c2=>?_) (fun c2=>?_)
 ·have c2':i < l.length:=by rw [hll] at c2;simpa using c2
  have hel:=encFs_at c2'
  have hdr:l.drop i=l[i]::l.drop (i+1):=List.drop_eq_getElem_cons c2'
  have hpv:qVs l (i+1)=some l[i]:=by unfold qVs;simp [c2']
  rw [hdr,infL_cons] at hg
  have hC:=checkI_spec l[i]
  generalize l[i]=x at hel hC hpv hg
  generalize he:infE x=ve at hC hg
  obtain ⟨x1,x2,x3,x4,x5⟩:=x
  unfold qQc at hC
  unfold vKx at hel
  simp only at hC hel
  by_cases h0:i=0
  ·subst h0
   have hn:decide (((0:Nat):Int) > 0)=false:=rfl
   refine ww ?_
   refine wwi hel ?_
   refine ww ?_
   refine wwc hC ?_
   refine ww ?_
   refine qAa rfl (fun c3=>?_) (fun c3=>?_)
   ·rw [if_pos (by simpa using c3)] at hg
    subst hg
    refine ww ?_
    exact wwr
   rw [if_neg (by simpa using c3)] at hg
   refine wwk hn ?_
   refine qAa rfl (fun c4=>?_) (fun c4=>?_)
   ·exact absurd c4 (by simp)
   simp only [qVs,if_true] at hg
   rw [if_neg (by simp)] at hg
   refine ww ?_
   exact ⟨0+1,[_],⟨c2',by rw [hpv];exact hg⟩,by omega,⟨.refl _,.refl _,.refl _,.int hwr,trivial⟩,HLe.refl _,Env.below_mono hE (by simp),rfl,rfl⟩
  ·have hlt:i-1 < l.length:=by omega
   have help:(qFm l)[(IntKind.i64.wrap ((i:Int)-1)).toNat]?=some (vKx l[i-1]):=by
    rw [qAf (by omega),show (i:Int)-1=((i-1:Nat):Int) by omega];exact encFs_at hlt
   have hp:qVs l i=some l[i-1]:=by unfold qVs;rw [if_neg h0];simp [hlt]
   have hn:decide ((i:Int) > 0)=true:=by simp;omega
   have hwi:IntKind.i64.wrap ((i:Int)-1)=(i:Int)-1:=qAf (by omega)
   rw [hp] at hg
   have hg:(if ve≠0 then ve else if vIx l[i-1] ⟨x1,x2,x3,x4,x5⟩=true then 17 else vBd (some ⟨x1,x2,x3,x4,x5⟩) (l.drop (i+1)))=fin:=hg
   have hio:=orI_infO l[i-1] ⟨x1,x2,x3,x4,x5⟩
   generalize vIx l[i-1] ⟨x1,x2,x3,x4,x5⟩=io at hg hio
   generalize l[i-1]=p at help hio
   obtain ⟨p1,p2,p3,p4,p5⟩:=p
   simp only at hio
   unfold vKx at help
   simp only at help
   have hc1:=qMb p1 x1
   have hc2:=qMb p5 x5
   have hor:=vJq (vDf p1 x1) (vDf p5 x5)
   generalize orI (vDf p1 x1) (vDf p5 x5)=ov at hor hio
   subst hio
   refine ww ?_
   refine wwi hel ?_
   refine ww ?_
   refine wwc hC ?_
   refine ww ?_
   refine qAa rfl (fun c3=>?_) (fun c3=>?_)
   ·rw [if_pos (by simpa using c3)] at hg
    subst hg
    refine ww ?_
    exact wwr
   rw [if_neg (by simpa using c3)] at hg
   refine ww ?_
   refine wwgi help ?_
   refine ww ?_
   refine wwgc hc1 ?_
   refine ww ?_
   refine wwgi help ?_
   refine ww ?_
   refine wwgc hc2 ?_
   refine ww ?_
   refine qLp rfl rfl rfl rfl (fun hg=>⟨(sg (C:=True) hg).1,qKa (args:=[.sl 1 [[Dat.int .i64 (vDf p1 x1)],[Dat.int .i64 (vDf p5 x5)]] .full]) rfl rfl hor rfl (by exact ⟨AV.le.dat,trivial⟩) rfl rfl⟩) ?_
   refine ww ?_
   refine qAa rfl (fun c4=>?_) (fun c4=>?_)
   ·have hov:decide (ov≥0)=true:=by rw [hn] at c4;simpa using c4
    rw [if_pos hov] at hg
    subst hg
    refine ww ?_
    exact wwr
   have hov:¬ decide (ov≥0)=true:=by rw [hn] at c4;simpa using c4
   rw [if_neg hov] at hg
   refine ww ?_
   exact ⟨i+1,[_],⟨c2',by rw [hpv];exact hg⟩,by omega,⟨.refl _,.refl _,.refl _,.int hwr,trivial⟩,HLe.refl _,Env.below_mono hE (by simp),rfl,rfl⟩
 ·have c2':i=l.length:=by rw [hll] at c2;simp at c2;omega
  subst c2'
  rw [List.drop_length,infL_nil] at hg
  subst hg
  refine ww ?_
  exact wwr
end Tdoc
namespace Tdoc
open Go Go.Proofs
theorem numberP_spec (n:Int):Spec Tryz.prog 291 [.d (.int .i64 n)] [] (fun r h'=>r=.agg ((qHv (.mk 2 [bOf n] [])).map .d)∧h'=[]):=by
 have e:qHv (.mk 2 [bOf n] [])=[Dat.int .i64 2,.sl 1 [[.int .u8 (IntKind.u8.wrap n)]],.sl 3 []]:=by rw [bOf_wrap];rfl
 rw [e]
 refine qAb hT Tryz.func291 rfl rfl rfl rfl ?_;intro E hE
 refine ww ?_
 exact qAh (r:=.agg [.d (.int .i64 2),.d (.sl 1 [[.int .u8 (IntKind.u8.wrap n)]]),.d (.sl 3 [])]) rfl (AV.le.agg ⟨.refl _,AV.le.dat,AV.le.dat,trivial⟩) rfl rfl rfl rfl ⟨rfl,rfl⟩
theorem objIP_spec (x:Inf) (hv:infE x=0):Spec Tryz.prog 189 [.agg (qQc x)] [] (fun r h'=>r=nAV (qKr x)∧h'=[]):=by
 have hE0:(2≤x.proto∧x.proto≤6)∧(x.proto=4→qDe x.key=true):=by
  unfold infE at hv
  split at hv
  ·exact absurd hv (by decide)
  split at hv
  ·exact absurd hv (by decide)
  split at hv
  ·exact absurd hv (by decide)
  rename_i h1 h2 h3
  refine ⟨by omega,fun h=>?_⟩
  cases hh:qDe x.key with
  | true=>rfl
  | false=>exact absurd (.inl ⟨h,hh⟩) h3
 obtain ⟨p,v,q,k,d⟩:=x
 simp only at hE0
 have hid:=qNu p hE0.1
 have hnv:=numberP_spec v
 have hnq:=numberP_spec q
 have hnd:=numberP_spec d
 have hm:=qNn p
 have hge:=qFu k
 unfold qKr qQc
 simp only
 unfold nAV
 have e0:∀ r:List Node,qHv (.mk 48 [] ([.mk 6 (idB p) [],.mk 2 [bOf v] []]++r))=[Dat.int .i64 48,.sl 1 [],.sl 3 ([[Dat.int .i64 6,.sl 1 (qAl (idB p)),.sl 3 []],qHv (.mk 2 [bOf v] [])]++encNs r)]:=fun r=>rfl
 rw [e0]
 have ev:qHv (.mk 2 [bOf v] [])=[Dat.int .i64 2,.sl 1 (qAl [bOf v]),.sl 3 []]:=rfl
 have eq:qHv (.mk 2 [bOf q] [])=[Dat.int .i64 2,.sl 1 (qAl [bOf q]),.sl 3 []]:=rfl
 have ed:qHv (.mk 2 [bOf d] [])=[Dat.int .i64 2,.sl 1 (qAl [bOf d]),.sl 3 []]:=rfl
 rw [ev] at hnv ⊢
 rw [eq] at hnq
 rw [ed] at hnd
 refine qAb hT Tryz.func189 rfl rfl rfl rfl ?_;intro E hE
 refine qAj ?_
 refine wwn ?_
 refine qBm (fun i=>bif Nat.beq i 1 then [1] else bif Nat.beq i 5 then [1] else bif Nat.beq i 9 then [0] else bif Nat.beq i 10 then [0] else []) (fun i=>bif Nat.beq i 9 then [0] else bif Nat.beq i 10 then [0] else []) mixed (by kernel_rfl) ?_
 refine wwg ?_
 refine wwdc hid ?_
 refine wwg ?_
 refine wwdc hnv ?_
 refine wwg ?_
 refine qAm (os:=[]) (fun k hk1 hk2=>buildSl_ok hT rfl rfl) rfl ?_
 refine wwg ?_
 refine qAm (v:=.ptr 0 0) (os:=[.row [.d (.int .i64 0),.sl 1 [] .full,.sl 3 [] .full]]) (fun kk hk1 hk2=>allocAt_ok (i0:=0) (i:=⟨.struct [(0,1,false),(1,1,false),(2,1,false)],3,56,[.d (.int .i64 0),.sl 1 [] .full,.sl 3 [] .full]⟩) hT rfl rfl ((hk2 0 List.mem_cons_self).trans rfl)) rfl ?_
 refine wwg ?_
 refine ww ?_
 refine wwc hm ?_
 refine ww ?_
 show AW Tryz.prog E _ _ _ _ _
 generalize idB p=ib
 refine qAo (l:=[(1,.ptr 1 0),(2,.ptr 2 0),(3,.ptr 0 0),(15,.d (.bool (p == 2||p == 3)))]) (h':=[.row [.d (.int .i64 48),.sl 1 [] .full,.sl 3 [[.int .i64 6,.sl 1 (qAl ib),.sl 3 []],[.int .i64 2,.sl 1 (qAl [bOf v]),.sl 3 []]] .full],.row [.d (.int .i64 p),.d (.int .i64 v),.d (.int .i64 q),.d (.int .i64 k),.d (.int .i64 d)],.row [.d (.int .i64 0),.sl 1 [] .full,.sl 3 [] .full]]) ⟨.refl _,.refl _,.refl _,.refl _,trivial⟩ (HLe.refl _) ?_
 refine qAj (qCe 0 2 3 3 rfl rfl rfl ?_)
 refine qAa rfl (fun c1=>?_) (fun c1=>?_)
 ·have c1':p=2∨p=3:=by simpa using c1
  rw [if_pos c1']
  show AW Tryz.prog E _ _ _ _ _
  refine qBm (fun i=>bif Nat.beq i 1 then [0] else bif Nat.beq i 3 then [1] else bif Nat.beq i 6 then [3] else bif Nat.beq i 8 then [0] else []) (fun i=>bif Nat.beq i 6 then [3] else bif Nat.beq i 8 then [0] else []) mixed (by kernel_rfl) ?_
  refine wwg ?_
  refine wwdc hnq ?_
  refine wwg ?_
  refine qAm (os:=[]) (fun k hk1 hk2=>buildSl_ok hT rfl rfl) rfl ?_
  refine qAm (v:=.sl 3 [[.int .i64 6,.sl 1 (qAl ib),.sl 3 []],[.int .i64 2,.sl 1 (qAl [bOf v]),.sl 3 []],[.int .i64 2,.sl 1 (qAl [bOf q]),.sl 3 []]] (.right 3)) (os:=[.right 3 3]) (fun k hk1 hk2=>qAi (i:=3) hT rfl rfl rfl rfl ((hk2 3 List.mem_cons_self).trans rfl) rfl (by show (2+1)*(56+1)≤140737488355328;omega)) rfl ?_
  refine wwg ?_
  show AW Tryz.prog E _ _ _ _ _
  refine qAo (l:=[(1,.ptr 1 0),(2,.ptr 2 0),(3,.ptr 0 0)]) (h':=[.row [.d (.int .i64 48),.d (.sl 1 []),.d (.sl 3 [[.int .i64 6,.sl 1 (qAl ib),.sl 3 []],[.int .i64 2,.sl 1 (qAl [bOf v]),.sl 3 []],[.int .i64 2,.sl 1 (qAl [bOf q]),.sl 3 []]])],.dead,.row [.d (.int .i64 0),.sl 1 [] .full,.sl 3 [] .full],.dead]) ⟨.refl _,.refl _,.refl _,trivial⟩ ⟨⟨.refl _,.dat,.dat,trivial⟩,trivial,.refl _,trivial,trivial⟩ ?_
  refine ww ?_
  exact wwr
 have c1':¬ (p=2∨p=3):=by simpa using c1
 rw [if_neg c1']
 refine ww ?_
 refine qAa rfl (fun c2=>?_) (fun c2=>?_)
 ·have c2':p=4:=by simpa using c2
  rw [if_pos c2']
  have hel:=hE0.2 c2'
  rw [hel,if_pos rfl,if_pos rfl] at hge
  refine ww ?_
  refine wwc hge ?_
  refine wwn ?_
  show AW Tryz.prog E _ _ _ _ _
  refine qBm (fun i=>bif Nat.beq i 1 then [0] else bif Nat.beq i 5 then [1] else bif Nat.beq i 8 then [3] else bif Nat.beq i 10 then [0] else []) (fun i=>bif Nat.beq i 8 then [3] else bif Nat.beq i 10 then [0] else []) mixed (by kernel_rfl) ?_
  refine wwg ?_
  refine wwdc hnd ?_
  refine wwg ?_
  refine qAm (os:=[]) (fun k hk1 hk2=>buildSl_ok hT rfl rfl) rfl ?_
  refine qAm (v:=.sl 3 [[.int .i64 6,.sl 1 (qAl ib),.sl 3 []],[.int .i64 2,.sl 1 (qAl [bOf v]),.sl 3 []],[.int .i64 4,.sl 1 (qAl (qAu 4 k.toNat)),.sl 3 []],[.int .i64 2,.sl 1 (qAl [bOf d]),.sl 3 []]] (.right 3)) (os:=[.right 3 4]) (fun kk hk1 hk2=>qAi (i:=3) hT rfl rfl rfl rfl ((hk2 3 List.mem_cons_self).trans rfl) rfl (by show (2+2)*(56+1)≤140737488355328;omega)) rfl ?_
  refine wwg ?_
  show AW Tryz.prog E _ _ _ _ _
  refine qAo (l:=[(1,.ptr 1 0),(2,.ptr 2 0),(3,.ptr 0 0)]) (h':=[.row [.d (.int .i64 48),.d (.sl 1 []),.d (.sl 3 [[.int .i64 6,.sl 1 (qAl ib),.sl 3 []],[.int .i64 2,.sl 1 (qAl [bOf v]),.sl 3 []],[.int .i64 4,.sl 1 (qAl (qAu 4 k.toNat)),.sl 3 []],[.int .i64 2,.sl 1 (qAl [bOf d]),.sl 3 []]])],.dead,.row [.d (.int .i64 0),.sl 1 [] .full,.sl 3 [] .full],.dead]) ⟨.refl _,.refl _,.refl _,trivial⟩ ⟨⟨.refl _,.dat,.dat,trivial⟩,trivial,.refl _,trivial,trivial⟩ ?_
  refine ww ?_
  exact wwr
 ·have c2':¬ p=4:=by simpa using c2
  rw [if_neg c2']
  show AW Tryz.prog E _ _ _ _ _
  refine qAo (l:=[(1,.ptr 1 0),(2,.ptr 2 0),(3,.ptr 0 0)]) (h':=[.row [.d (.int .i64 48),.d (.sl 1 []),.d (.sl 3 [[.int .i64 6,.sl 1 (qAl ib),.sl 3 []],[.int .i64 2,.sl 1 (qAl [bOf v]),.sl 3 []]])],.dead,.row [.d (.int .i64 0),.sl 1 [] .full,.sl 3 [] .full],.dead]) ⟨.refl _,.refl _,.refl _,trivial⟩ ⟨⟨.refl _,.dat,.dat,trivial⟩,trivial,.refl _,trivial,trivial⟩ ?_
  refine ww ?_
  exact wwr
end Tdoc
namespace Tdoc
open Go Go.Proofs
def qTr (l:List Inf):List UInt8×Int:=if validI l≠0 then ([],validI l) else qBh [qHi l]
theorem infL_get:∀ {l:List Inf} {p:Option Inf},vBd p l=0→∀ {i:Nat} (hi:i < l.length),infE l[i]=0
 | [],_,_,_,hi=>by simp at hi
 | x::l,p,h,i,hi=>by
  rw [infL_cons] at h
  have hv:infE x=0:=by
   by_cases hv:infE x=0
   ·exact hv
   ·rw [if_pos hv] at h;exact h
  rw [if_neg (fun hh=>hh hv)] at h
  have hl:vBd (some x) l=0:=by
   split at h <;> split at h
   all_goals first | exact h | exact absurd h (by decide)
  cases i with
  | zero=>exact hv
  | succ i=>exact infL_get hl (by simpa using hi)
theorem validI_ok {l:List Inf} (h:validI l=0):l.length≤16∧vBd none l=0:=by
 unfold validI at h
 split at h
 ·omega
 ·exact ⟨by omega,h⟩
theorem idB_len (p:Int):(idB p).length=9:=by
 unfold idB
 split
 ·rfl
 split
 ·rfl
 split
 ·rfl
 split <;> rfl
theorem vKg (x:Inf) (r:List Node):(wrL (qKr x::r)).length≤200+(wrL r).length:=by
 unfold qKr
 have h0:(wrL ([]:List Node)).length=0:=rfl
 have hid:=idB_len x.proto
 split
 ·have h1:=wrL_cons_length 48 [] ([.mk 6 (idB x.proto) [],.mk 2 [bOf x.ver] []]++[.mk 2 [bOf x.par] []]) r
  have h2:=wrL_cons_length 6 (idB x.proto) [] [.mk 2 [bOf x.ver] [],.mk 2 [bOf x.par] []]
  have h3:=wrL_cons_length 2 [bOf x.ver] [] [.mk 2 [bOf x.par] []]
  have h4:=wrL_cons_length 2 [bOf x.par] [] []
  simp only [List.cons_append,List.nil_append,List.length_cons,List.length_nil] at *
  omega
 split
 ·have h1:=wrL_cons_length 48 [] ([.mk 6 (idB x.proto) [],.mk 2 [bOf x.ver] []]++[.mk 4 (qAu 4 x.key.toNat) [],.mk 2 [bOf x.kid] []]) r
  have h2:=wrL_cons_length 6 (idB x.proto) [] [.mk 2 [bOf x.ver] [],.mk 4 (qAu 4 x.key.toNat) [],.mk 2 [bOf x.kid] []]
  have h3:=wrL_cons_length 2 [bOf x.ver] [] [.mk 4 (qAu 4 x.key.toNat) [],.mk 2 [bOf x.kid] []]
  have h4:=wrL_cons_length 4 (qAu 4 x.key.toNat) [] [.mk 2 [bOf x.kid] []]
  have h5:=wrL_cons_length 2 [bOf x.kid] [] []
  simp only [List.cons_append,List.nil_append,List.length_cons,List.length_nil,octB_length] at *
  omega
 ·have h1:=wrL_cons_length 48 [] ([.mk 6 (idB x.proto) [],.mk 2 [bOf x.ver] []]++[]) r
  have h2:=wrL_cons_length 6 (idB x.proto) [] [.mk 2 [bOf x.ver] []]
  have h3:=wrL_cons_length 2 [bOf x.ver] [] []
  simp only [List.cons_append,List.nil_append,List.length_cons,List.length_nil] at *
  omega
theorem qQm:∀ (l:List Inf),(wrL (l.map qKr)).length≤l.length*200
 | []=>by show (0:Nat)≤_;omega
 | x::l=>by
  have h1:=vKg x (l.map qKr)
  have h2:=qQm l
  simp only [List.map_cons,List.length_cons]
  omega
theorem vHj {l:List Inf} (h:l.length≤16):(wrL [qHi l]).length≤10000:=by
 have h1:=qQm l
 have h2:=wrL_cons_length 49 [] (l.map qKr) []
 have h0:(wrL ([]:List Node)).length=0:=rfl
 unfold qHi
 simp only [List.length_nil] at *
 omega
theorem encIP_spec (l:List Inf) (hl:l.length≤1000000):Spec Tryz.prog 101 [.d (.sl 5 (qFm l))] [] (fun r h'=>r=.tup [.d (.sl 1 (qAl (qTr l).1)),.d (.int .i64 (qTr l).2)]∧h'=[]):=by
 have hll:=encFs_length l
 have hc:=qOh l hl
 have hcv:=@validI_ok l
 unfold qTr
 generalize validI l=e at hc hcv
 refine qAb hT Tryz.func101 rfl rfl rfl rfl ?_;intro E hE
 refine ww ?_
 refine wwc hc ?_
 refine ww ?_
 refine qAa rfl (fun c1=>?_) (fun c1=>?_)
 ·have c1':e≠0:=by simpa using c1
  rw [if_pos c1']
  refine ww ?_
  exact wwr
 have c1':e=0:=by simpa using c1
 obtain ⟨g1,g3⟩:=hcv c1'
 subst c1'
 rw [if_neg (by simp)]
 obtain ⟨f1,f2⟩:=setI_fit g1
 have henc:=qFo [qHi l] (by simp) f1 (by omega) (by have:=vHj g1;omega)
 generalize qBh [qHi l]=en at henc
 obtain ⟨b,f⟩:=en
 simp only at henc ⊢
 refine ww ?_
 refine qAj (qCe 0 2 1 3 rfl rfl rfl ?_)
 refine qBt (ι:=Nat) (fun i=>[(14,.d (.sl 5 (qFm l))),(5,.ptr 0 0),(15,.d (.int .i64 (l.length:Int))),(16,.d (.int .i64 (i:Int)))])
  (fun i=>[.row [.d (.int .i64 49),.sl 1 [] .full,.sl 3 (encNs ((l.take i).map qKr)) (.right 1)],.right 3 (encNs ((l.take i).map qKr)).length])
  (fun i=>i≤l.length) (fun i=>l.length-i) 0 (by omega) ⟨.refl _,.refl _,.int (by rw [hll]),.refl _,trivial⟩ (HLe.refl _) ?_
 intro i hi
 have hwr:IntKind.i64.wrap ((i:Int)+1)=((i+1:Nat):Int):=by rw [qAf (by omega)];simp
 have hkl:(encNs ((l.take i).map qKr)).length≤16:=by rw [encNs_length];simp;omega
 refine ww ?_
 refine qAa rfl (fun c2=>?_) (fun c2=>?_)
 ·have c2':i < l.length:=by have h3:(i:Int) < (l.length:Int):=(by simpa using c2);omega
  have hel:=encFs_at c2'
  have htk:encNs ((l.take (i+1)).map qKr)=encNs ((l.take i).map qKr)++[qHv (qKr l[i])]:=by
   rw [List.take_succ_eq_append_getElem c2',List.map_append,encNs_append];rfl
  have ho:=objIP_spec l[i] (infL_get g3 c2')
  generalize l[i]=t at hel ho htk
  generalize encNs ((l.take i).map qKr)=ks at hkl htk ⊢
  generalize hnd:qHv (qKr t)=nd at htk
  have hnd':∃ v k,nd=[.int .i64 48,.sl 1 v,.sl 3 k]:=⟨_,_,hnd.symm⟩
  unfold nAV at ho
  rw [hnd] at ho
  obtain ⟨vv,kk,rfl⟩:=hnd'
  unfold qQc at ho
  refine ww ?_
  refine wwi hel ?_
  refine wwn ?_
  show AW Tryz.prog E _ _ _ _ _
  refine qBm (fun i=>bif Nat.beq i 1 then [0] else bif Nat.beq i 2 then [2] else bif Nat.beq i 5 then [1] else bif Nat.beq i 7 then [0] else []) (fun i=>bif Nat.beq i 5 then [1] else bif Nat.beq i 7 then [0] else []) mixed (by kernel_rfl) ?_
  refine wwg ?_
  refine wwdc ho ?_
  refine wwg ?_
  refine qAm (os:=[]) (fun k hk1 hk2=>buildSl_ok hT rfl rfl) rfl ?_
  refine qAm (v:=.sl 3 (ks++[[.int .i64 48,.sl 1 vv,.sl 3 kk]]) (.right 1)) (os:=[.right 3 (ks++[[Dat.int .i64 48,.sl 1 vv,.sl 3 kk]]).length]) (fun k hk1 hk2=>qAi (i:=1) hT rfl rfl rfl rfl ((hk2 1 List.mem_cons_self).trans rfl) rfl (by show (ks.length+1)*(56+1)≤_;omega)) rfl ?_
  refine wwg ?_
  refine ww ?_
  refine ⟨i+1,[_],by omega,by omega,⟨.refl _,.refl _,.refl _,.int hwr,trivial⟩,⟨ObLe.row (by rw [htk]),⟨rfl,congrArg List.length htk.symm⟩,.refl _,trivial⟩,Env.below_mono hE (by simp),rfl,rfl⟩
 ·have c2':i=l.length:=by have h3:¬ (i:Int) < (l.length:Int):=(by simpa using c2);omega
  subst c2'
  rw [List.take_length]
  show AW Tryz.prog E _ _ _ _ _
  refine qAo (l:=[(5,.ptr 0 0)]) (h':=[.row [.d (.int .i64 49),.d (.sl 1 []),.d (.sl 3 (encNs (l.map qKr)))],.dead]) ⟨.refl _,trivial⟩ ⟨⟨.refl _,.dat,.dat,trivial⟩,trivial,trivial⟩ ?_
  have henc':Spec Tryz.prog 181 [.d (.sl 3 [[.int .i64 49,.sl 1 [],.sl 3 (encNs (l.map qKr))]])] [] (fun r h'=>r=.tup [.d (.sl 1 (qAl b)),.d (.int .i64 f)]∧h'=[]):=henc
  refine ww ?_
  refine wwc henc' ?_
  refine ww ?_
  exact wwr
end Tdoc
namespace Tdoc
open Go Go.Proofs
theorem infosP_walk (l:List Inf) (hl:l.length≤1000000) (hp:validI l=0→(qBh [qHi l]).2=0∧(qBh [qHi l]).1.length≤10000∧(qEf (qBh [qHi l]).1 true).1=[qHi l]):Spec Tryz.prog 95 [.d (.sl 5 (qFm l))] [] (fun r h'=>r=.tup [.d (.sl 1 (qAl (infosF l).1)),.d (.int .i64 (infosF l).2)]∧h'=[]):=by
 have hc:=encIP_spec l hl
 have hcv:=@validI_ok l
 unfold qTr at hc
 unfold infosF
 by_cases h0:validI l=0
 ·obtain ⟨p1,p2,p3⟩:=hp h0
  obtain ⟨g1,g3⟩:=hcv h0
  rw [if_neg (by simp [h0])] at hc ⊢
  obtain ⟨f1,f2⟩:=setI_fit g1
  have hw:=qGm 14 (by omega) [qHi l] (by simp) f1 (by omega) (by have:=vHj g1;omega)
  have hps:=qQh (qBh [qHi l]).1 true (by omega)
  rw [p3] at hps
  rw [p1] at hc
  generalize (qBh [qHi l]).1=b at hc hps
  generalize (qEf b true).2=pe at hps
  generalize qEa 14 [qHi l]=w at hw
  obtain ⟨w,we⟩:=w
  simp only at hw ⊢
  generalize encNs [qHi l]=ks at hps hw
  refine qAb hT Tryz.func95 rfl rfl rfl rfl ?_;intro E hE
  refine ww ?_
  refine wwc hc ?_
  refine ww ?_
  refine qAa rfl (fun c1=>?_) (fun c1=>?_)
  ·exact absurd c1 (by simp)
  refine ww ?_
  refine wwc hps ?_
  refine ww ?_
  refine wwc hw ?_
  refine ww ?_
  exact wwr
 ·rw [if_pos h0] at hc ⊢
  simp only at hc ⊢
  generalize validI l=e at hc h0
  refine qAb hT Tryz.func95 rfl rfl rfl rfl ?_;intro E hE
  refine ww ?_
  refine wwc hc ?_
  refine ww ?_
  refine qAa rfl (fun c1=>?_) (fun c1=>?_)
  case refine_2=>exact absurd (by simpa using c1) h0
  refine ww ?_
  exact wwr
end Tdoc
namespace Tdoc
open Go Go.Proofs
inductive LenS (n:Nat):List UInt8→Prop where
 | one:n < 128→LenS n [UInt8.ofNat n]
 | two:128≤n→n < 256→LenS n [129,UInt8.ofNat n]
 | three:256≤n→LenS n [130,UInt8.ofNat (n / 256 % 256),UInt8.ofNat (n % 256)]
theorem lenB_S {n:Nat} (h:n≤4097):LenS n (qPt n):=by
 rw [← lenR_eq h]
 unfold qPs
 split
 ·exact .one (by omega)
 ·split
  ·exact .two (by omega) (by omega)
  ·exact .three (by omega)
inductive EncS:List Node→List UInt8→Prop where
 | nil:EncS [] []
 | prim {t:Int} {v:List UInt8} {k:List Node} {l:List Node} {f r:List UInt8}:qBd t=false→LenS v.length f→EncS l r→EncS (.mk t v k::l) (qLe t++(f++(v++r)))
 | cons {t:Int} {v:List UInt8} {k:List Node} {l:List Node} {f c r:List UInt8}:qBd t=true→EncS k c→LenS c.length f→EncS l r→EncS (.mk t v k::l) (qLe t++(f++(c++r)))
theorem lenX_atS {b:List UInt8} {e q n:Nat} {f:List UInt8} (op:Bool) (hf:LenS n f) (hn:n < 65536) (h:At b e q f):qOu b e op true q=((n:Int),0,q+f.length):=by
 unfold qOu
 cases hf with
 | one h1 =>
  obtain ⟨a1,a2,_⟩:=h.head
  rw [toNat_mod] at a1
  rw [if_neg (by omega),if_pos (by omega)]
  simp only [List.length_cons,List.length_nil]
  rw [a1,Nat.mod_eq_of_lt (by omega)]
 | two h0 h1 =>
  obtain ⟨a1,a2,a3⟩:=h.head
  obtain ⟨b1,b2,_⟩:=a3.head
  rw [toNat_mod] at b1
  have a1:qAq b q=129:=a1
  have e1:qWc b (q+1) (129 % 16) 0=n:=by
   simp only [qWc]
   rw [b1,Nat.mod_eq_of_lt (by omega)]
   simp
  rw [if_neg (by omega),if_neg (by omega),if_neg (by omega),if_neg (by omega),if_neg (by omega),a1,e1,if_neg ?_]
  ·rfl
  ·rintro ⟨_,h2 | h2⟩
   ·omega
   ·have h3:n / 1=0:=h2
    omega
 | three h0 =>
  obtain ⟨a1,a2,a3⟩:=h.head
  obtain ⟨b1,b2,b3⟩:=a3.head
  obtain ⟨c1,c2,_⟩:=b3.head
  rw [toNat_mod] at b1 c1
  have a1:qAq b q=130:=a1
  have e1:qWc b (q+1) (130 % 16) 0=n:=by
   simp only [qWc]
   rw [b1,c1]
   omega
  rw [if_neg (by omega),if_neg (by omega),if_neg (by omega),if_neg (by omega),if_neg (by omega),a1,e1,if_neg ?_]
  ·rfl
  ·rintro ⟨_,h2 | h2⟩
   ·omega
   ·have h3:n / 256=0:=h2
    omega
theorem encS_steps (b:List UInt8) {l:List Node} {r:List UInt8} (h:EncS l r):∀ (k d e p c:Nat),(qDt d l 0).1=0→d+k=9→c+qAt l≤256→r.length < 65536→e≤b.length→At b e p r→Steps b (qMt b true (k+1) e d) e p c l (p+r.length) (c+qAt l):=by
 induction h with
 | nil=>intro k d e p c _ _ _ _ _ _;exact .nil p c
 | @prim t v k0 l f r h1 h2 h3 ih =>
  intro k d e p c hch hk hc hr he ha
  obtain ⟨c1,c2⟩:=chkL_inv hch
  obtain ⟨t1,t2,t3,t4,t5⟩:=chkN_inv c1
  obtain rfl:=t2 h1
  obtain ⟨g1,g2⟩:=tagX_at t1 ha.left
  have a2:=ha.right
  have a3:=a2.left
  have a4:=a2.right
  have a5:=a4.left
  have a6:=a4.right
  simp only [List.length_append] at hr
  have hsz:qAt (Node.mk t v []::l)=1+qAt l:=by simp [qAt,qCf]
  rw [hsz] at hc ⊢
  have hl:=lenX_atS false h2 (by omega) a3
  have hbd:=a5.1
  refine .cons (p1:=p+(qLe t).length+f.length+v.length) (c1:=c+1) ?_ g2 ?_ ?_
  ·have:=(tagX_inv (b:=b) (e:=e) (p:=p) (by rw [g1])).1
   rw [g1] at this;simp only at this;omega
  ·rw [qMt,g1]
   simp only [ne_eq,not_true_eq_false,if_false]
   rw [Bool.not_true,Bool.and_false,hl]
   unfold vEs
   simp only [ne_eq,not_true_eq_false,if_false]
   rw [if_neg (by omega),if_neg (by omega),if_neg (by omega),if_neg (by omega),if_neg (by simp [h1])]
   rw [Int.toNat_natCast,a5.cut he]
  ·have:=ih k d e (p+(qLe t).length+f.length+v.length) (c+1) c2 hk (by omega) (by omega) he a6
   simp only [List.length_append]
   rw [show p+((qLe t).length+(f.length+(v.length+r.length)))=p+(qLe t).length+f.length+v.length+r.length by omega,show c+(1+qAt l)=c+1+qAt l by omega]
   exact this
 | @cons t v k0 l f c0 r h1 h2 h3 h4 ihk ih =>
  intro k d e p c hch hk hc hr he ha
  obtain ⟨c1,c2⟩:=chkL_inv hch
  obtain ⟨t1,t2,t3,t4,t5⟩:=chkN_inv c1
  obtain rfl:=t3 h1
  obtain ⟨g1,g2⟩:=tagX_at t1 ha.left
  have a2:=ha.right
  have a3:=a2.left
  have a4:=a2.right
  have a5:=a4.left
  have a6:=a4.right
  simp only [List.length_append] at hr
  have hsz:qAt (Node.mk t [] k0::l)=1+qAt k0+qAt l:=by simp [qAt,qCf]
  rw [hsz] at hc ⊢
  have hl:=lenX_atS false h3 (by omega) a3
  have hbd:=a5.1
  obtain ⟨k,rfl⟩:∃ k',k=k'+1:=⟨k-1,by omega⟩
  refine .cons (p1:=p+(qLe t).length+f.length+c0.length) (c1:=c+1+qAt k0) ?_ g2 ?_ ?_
  ·have:=(tagX_inv (b:=b) (e:=e) (p:=p) (by rw [g1])).1
   rw [g1] at this;simp only at this;omega
  ·rw [qMt,g1]
   simp only [ne_eq,not_true_eq_false,if_false]
   rw [Bool.not_true,Bool.and_false,hl]
   unfold vEs
   simp only [ne_eq,not_true_eq_false,if_false]
   rw [if_neg (by omega),if_neg (by omega),if_neg (by omega),if_neg (by omega),if_pos h1]
   rw [Int.toNat_natCast]
   have hst:=ihk k (d+1) (p+(qLe t).length+f.length+c0.length) (p+(qLe t).length+f.length) (c+1) (by rw [chkL_any _ _ 0 1];exact t5) (by omega) (by omega) (by omega) (by omega) (a5.mono (by omega))
   have hln:=hst.len (objX_ok b true (k+1) _ (d+1)) (by omega) (by omega)
   rw [hst.loop rfl _ _ (by omega),List.nil_append]
  ·have:=ih (k+1) d e (p+(qLe t).length+f.length+c0.length) (c+1+qAt k0) c2 hk (by omega) (by omega) he a6
   simp only [List.length_append]
   rw [show p+((qLe t).length+(f.length+(c0.length+r.length)))=p+(qLe t).length+f.length+c0.length+r.length by omega,show c+(1+qAt k0+qAt l)=c+1+qAt k0+qAt l by omega]
   exact this
theorem encS_parse {l:List Node} {r:List UInt8} (h:EncS l r) (hc:(qDt 1 l 0).1=0) (hs:qAt l≤256) (hr:r.length≤4096):qEf r true=(l,0):=by
 have hst:=encS_steps r h 8 1 r.length 0 0 hc rfl (by omega) (by omega) (Nat.le_refl _) (At.whole r)
 have hln:=hst.len (objX_ok r true 9 _ 1) (by omega) (by omega)
 unfold qEf
 rw [if_neg (by omega),hst.loop (by omega) _ _ (by omega),List.nil_append]
end Tdoc
namespace Tdoc
open Go Go.Proofs
theorem wrL_encS:∀ (n:Nat) (l:List Node),qAt l≤n→(wrL l).length≤4096→EncS l (wrL l)
 | _,[],_,_=>.nil
 | 0,.mk t v k::l,h,_=>by simp only [qAt,qCf] at h;omega
 | n+1,.mk t v k::l,h,hw=>by
  have hs:qAt k≤n∧qAt l≤n:=by simp only [qAt,qCf] at h;omega
  by_cases hc:qBd t=true
  ·have e:wrL (.mk t v k::l)=qLe t++(qPt (wrL k).length++(wrL k++wrL l)):=by simp [wrL,wrN,hc]
   rw [e] at hw ⊢
   simp only [List.length_append] at hw
   exact .cons hc (wrL_encS n k hs.1 (by omega)) (lenB_S (by omega)) (wrL_encS n l hs.2 (by omega))
  ·have hc':qBd t=false:=by simpa using hc
   have e:wrL (.mk t v k::l)=qLe t++(qPt v.length++(v++wrL l)):=by simp [wrL,wrN,hc']
   rw [e] at hw ⊢
   simp only [List.length_append] at hw
   exact .prim hc' (lenB_S (by omega)) (wrL_encS n l hs.2 (by omega))
theorem vGm (x:Inf):(qGc 2 (qKr x) 0).1=0:=by
 have t1:qCs 48=true:=by decide
 have t2:qBd 48=true:=by decide
 have t3:qCs 6=true:=by decide
 have t4:qBd 6=false:=by decide
 have t5:qCs 2=true:=by decide
 have t6:qBd 2=false:=by decide
 have t7:qCs 4=true:=by decide
 have t8:qBd 4=false:=by decide
 unfold qKr
 split
 ·simp [qGc,qDt,t1,t2,t3,t4,t5,t6]
 split
 ·simp [qGc,qDt,t1,t2,t3,t4,t5,t6,t7,t8]
 ·simp [qGc,qDt,t1,t2,t3,t4,t5,t6]
theorem vGk (l:List Inf):(qDt 1 [qHi l] 0).1=0:=by
 have t1:qCs 49=true:=by decide
 have t2:qBd 49=true:=by decide
 have hk:∀ c,(qDt 2 (l.map qKr) c).1=0:=fun c=>chkL_of fun n hn=>by
  obtain ⟨x,_,rfl⟩:=List.mem_map.1 hn
  exact vGm x
 have h1:(qGc 1 (qHi l) 0).1=0:=by
  unfold qHi
  rw [qGc,if_neg (by simp [t1]),if_neg (by simp [t2]),if_neg (by omega)]
  exact hk _
 exact chkL_of fun n hn=>by rw [List.mem_singleton.1 hn];exact h1
theorem encI_parse (l:List Inf) (h0:validI l=0):(qBh [qHi l]).2=0∧(qBh [qHi l]).1.length≤10000∧(qEf (qBh [qHi l]).1 true).1=[qHi l]:=by
 obtain ⟨g1,g3⟩:=validI_ok h0
 obtain ⟨f1,f2⟩:=setI_fit g1
 have hc:=vGk l
 have hcnt:=chkL_count 1 [qHi l] 0
 have hw:(wrL [qHi l]).length≤4096:=by
  have h1:=qQm l
  have h2:=wrL_cons_length 49 [] (l.map qKr) []
  have h3:(wrL ([]:List Node)).length=0:=rfl
  unfold qHi
  simp only [List.length_nil] at *
  omega
 have he:qBh [qHi l]=(wrL [qHi l],0):=by
  unfold qBh
  rw [if_neg (by rw [hc];simp),if_neg (by omega),if_neg (by omega)]
 rw [he]
 refine ⟨rfl,by simp only;omega,?_⟩
 simp only
 rw [encS_parse (wrL_encS _ _ (Nat.le_refl _) hw) hc (by omega) hw]
theorem infosP_spec (l:List Inf) (hl:l.length≤1000000):Spec Tryz.prog 95 [.d (.sl 5 (qFm l))] [] (fun r h'=>r=.tup [.d (.sl 1 (qAl (infosF l).1)),.d (.int .i64 (infosF l).2)]∧h'=[]) :=
 infosP_walk l hl fun h0=>encI_parse l h0
end Tdoc
namespace Tdoc
open Go Go.Proofs
end Tdoc
namespace Tdoc
open Go Go.Proofs
end Tdoc
namespace Tdoc
open Go Go.Proofs
end Tdoc
namespace Tdoc
open Go Go.Proofs
end Tdoc
namespace Tdoc
open Go Go.Proofs
end Tdoc
namespace Tdoc
open Go Go.Proofs
theorem vBn:∀ x,x∈tagTab.take 16→qCs x=true∧qBd x=true∧(qKt x).2=0:=by decide
theorem tagR_at {n:Int} (h1:1≤n) (h2:n≤16):(qMp n).2=0∧(qMp n).1∈tagTab.take 16:=by
 unfold qMp
 rw [if_neg (by omega)]
 refine ⟨rfl,?_⟩
 have hl:(n-1).toNat < (tagTab.take 16).length:=by show (n-1).toNat < 16;omega
 have:tagTab[(n-1).toNat]?=some (tagTab.take 16)[(n-1).toNat]:=by
  rw [List.getElem_take,List.getElem?_eq_getElem]
 rw [this]
 exact List.getElem_mem _
end Tdoc
namespace Tdoc
open Go
theorem qZv {n:Int} (h1:1≤n) (h2:n≤16):(qKt (qMp n).1).1=n:=by
 have:n=1∨n=2∨n=3∨n=4∨n=5∨n=6∨n=7∨n=8∨n=9∨n=10∨n=11∨n=12∨n=13∨n=14∨n=15∨n=16:=by omega
 rcases this with rfl | rfl | rfl | rfl | rfl | rfl | rfl | rfl | rfl | rfl | rfl | rfl | rfl | rfl | rfl | rfl <;> decide
theorem vBg {n:Int} {k:List Node} (h1:1≤n) (h2:n≤16) (hc:(qDt 2 k 0).1=0) (hs:qAt k≤250) (hw:(wrL k).length≤4000):(qEa n k).2=0∧(qEa n k).1.length≤4096∧qWa (qEa n k).1=(n,k,0):=by
 obtain ⟨t1,t2⟩:=tagR_at h1 h2
 obtain ⟨t3,t4,t5⟩:=vBn _ t2
 have hg:=qZv h1 h2
 have hwr:qEa n k=qBh [.mk (qMp n).1 [] k]:=by unfold qEa;rw [if_neg (by rw [t1];simp)]
 generalize (qMp n).1=t at t2 t3 t4 t5 hwr hg
 have hch:(qDt 1 [.mk t [] k] 0).1=0:=chkL_of fun m hm=>by
  rw [List.mem_singleton.1 hm,qGc,if_neg (by simp [t3]),if_neg (by simp [t4]),if_neg (by omega),chkL_any (1+1) k (0+1) 0]
  exact hc
 have hsz:qAt [.mk t [] k]≤256:=by simp only [qAt,qCf];omega
 have hln:(wrL [.mk t [] k]).length≤4096:=by
  have h3:=wrL_cons_length t [] k []
  have h4:(wrL ([]:List Node)).length=0:=rfl
  simp only [List.length_nil] at h3
  omega
 have hcnt:=(chkL_count 1 [.mk t [] k] 0).1
 have he:qBh [.mk t [] k]=(wrL [.mk t [] k],0):=by
  unfold qBh
  rw [if_neg (by rw [hch];simp),if_neg (by omega),if_neg (by omega)]
 have hp:=encS_parse (wrL_encS _ _ (Nat.le_refl _) hln) hch hsz hln
 have hpf:=parseX_sub (b:=wrL [.mk t [] k]) (by rw [hp])
 rw [hwr,he]
 refine ⟨rfl,hln,?_⟩
 simp only
 unfold qWa
 rw [hpf,hp]
 simp only
 rw [if_neg (by simp),if_neg (by rw [t5];simp),hg]
theorem firstT_zero:∀ {l:List Tpl},(∀ t,t∈l→qDm t=0)→qEy l=0
 | [],_=>rfl
 | t::l,h=>by
  rw [qEy,if_neg (by rw [h t (by simp)];simp)]
  exact firstT_zero fun x hx=>h x (by simp [hx])
theorem vKf (t:Tpl) (r:List Node):(wrL (qJk t::r)).length≤130+t.data.length+(wrL r).length:=by
 have h0:(wrL ([]:List Node)).length=0:=rfl
 have a:=wrL_cons_length 32608 [] [.mk 161 [] (qIc t),.mk 24366 t.data []] r
 have b:=wrL_cons_length 161 [] (qIc t) [.mk 24366 t.data []]
 have c:=wrL_cons_length 24366 t.data [] []
 have d:(wrL (qIc t)).length≤86:=by
  unfold qIc
  have d1:=wrL_cons_length 129 [bOf t.kind] [] [.mk 130 [bOf t.part] [],.mk 131 (qAu 4 t.frm.toNat) [],.mk 132 (qAu 4 t.til.toNat) [],.mk 133 [bOf t.qual] [],.mk 136 [bOf (t.fmt / 256),bOf t.fmt] []]
  have d2:=wrL_cons_length 130 [bOf t.part] [] [.mk 131 (qAu 4 t.frm.toNat) [],.mk 132 (qAu 4 t.til.toNat) [],.mk 133 [bOf t.qual] [],.mk 136 [bOf (t.fmt / 256),bOf t.fmt] []]
  have d3:=wrL_cons_length 131 (qAu 4 t.frm.toNat) [] [.mk 132 (qAu 4 t.til.toNat) [],.mk 133 [bOf t.qual] [],.mk 136 [bOf (t.fmt / 256),bOf t.fmt] []]
  have d4:=wrL_cons_length 132 (qAu 4 t.til.toNat) [] [.mk 133 [bOf t.qual] [],.mk 136 [bOf (t.fmt / 256),bOf t.fmt] []]
  have d5:=wrL_cons_length 133 [bOf t.qual] [] [.mk 136 [bOf (t.fmt / 256),bOf t.fmt] []]
  have d6:=wrL_cons_length 136 [bOf (t.fmt / 256),bOf t.fmt] [] []
  simp only [List.length_cons,List.length_nil,octB_length] at d1 d2 d3 d4 d5 d6
  omega
 unfold qJk
 simp only [List.length_nil] at a b c
 omega
theorem vBh:∀ {l:List Tpl},(∀ t,t∈l→qDm t=0)→(wrL (l.map qJk)).length≤l.length*1154
 | [],_=>by show (0:Nat)≤_;omega
 | t::l,h=>by
  have h1:=vKf t (l.map qJk)
  have h2:=vBh (l:=l) fun x hx=>h x (by simp [hx])
  have h3:=(validT_ok (h t (by simp))).2.2.2.2.2.2.2.2.2.2.2.2.2
  rw [List.map_cons,List.length_cons]
  omega
theorem chkN_prim {d:Nat} {t:Int} {v:List UInt8} (h1:qCs t=true) (h2:qBd t=false) (hd:d≤8):(qGc d (.mk t v []) 0).1=0:=by
 rw [qGc,if_neg (by simp [h1]),if_neg (by simp [h2]),if_neg (by omega)];rfl
theorem chkN_cons {d:Nat} {t:Int} {k:List Node} (h1:qCs t=true) (h2:qBd t=true) (hd:d≤8) (hk:∀ n,n∈k→(qGc (d+1) n 0).1=0):(qGc d (.mk t [] k) 0).1=0:=by
 rw [qGc,if_neg (by simp [h1]),if_neg (by simp [h2]),if_neg (by omega)];exact chkL_of hk
theorem vGl (t:Tpl):(qGc 3 (qJk t) 0).1=0:=by
 unfold qJk
 refine chkN_cons (by decide) (by decide) (by omega) fun n hn=>?_
 simp only [List.mem_cons,List.not_mem_nil,or_false] at hn
 rcases hn with rfl | rfl
 ·refine chkN_cons (by decide) (by decide) (by omega) fun n hn=>?_
  simp only [qIc,List.mem_cons,List.not_mem_nil,or_false] at hn
  rcases hn with rfl | rfl | rfl | rfl | rfl | rfl <;> exact chkN_prim (by decide) (by decide) (by omega)
 ·exact chkN_prim (by decide) (by decide) (by omega)
end Tdoc
namespace Tdoc
open Go
theorem powX_eq:∀ (m x k out:Nat),k < 2 ^ m→out < pG→qOx m x k out=out*x ^ k % pG
 | 0,x,k,out,hk,ho=>by
  have:k=0:=by simpa using hk
  subst this
  rw [qOx,Nat.pow_zero,Nat.mul_one,Nat.mod_eq_of_lt ho]
 | m+1,x,k,out,hk,ho=>by
  rw [qOx]
  by_cases h0:k=0
  ·subst h0;rw [if_pos rfl,Nat.pow_zero,Nat.mul_one,Nat.mod_eq_of_lt ho]
  ·rw [if_neg h0]
   have hk2:k / 2 < 2 ^ m:=by rw [Nat.pow_succ] at hk;omega
   have hpg:0 < pG:=by decide
   have hsq:(x*x % pG) ^ (k / 2) % pG=x ^ (2*(k / 2)) % pG:=by rw [← Nat.pow_mod,Nat.pow_mul,Nat.pow_two]
   by_cases h1:k % 2=1
   ·rw [if_pos h1,powX_eq m _ _ _ hk2 (Nat.mod_lt _ hpg),Nat.mul_mod,Nat.mod_mod,hsq,← Nat.mul_mod]
    have e:k=2*(k / 2)+1:=by omega
    conv=>rhs;rw [e,Nat.pow_succ]
    rw [Nat.mul_assoc,Nat.mul_comm x,← Nat.mul_assoc,Nat.mul_assoc out,← Nat.mul_assoc]
   ·rw [if_neg h1,powX_eq m _ _ _ hk2 ho,Nat.mul_mod,hsq,← Nat.mul_mod]
    have e:k=2*(k / 2):=by omega
    conv=>rhs;rw [e]
def vFp (q:Nat):Nat→Bool
 | 0=>true
 | d+1=>(Nat.ble (d+1) 1||!Nat.beq (q % (d+1)) 0)&&vFp q d
theorem noDiv_at {q:Nat}:∀ {n d:Nat},vFp q n=true→2≤d→d≤n→q % d≠0
 | 0,d,_,h1,h2=>by omega
 | n+1,d,h,h1,h2=>by
  simp only [vFp,Bool.and_eq_true,Bool.or_eq_true,Bool.not_eq_true'] at h
  by_cases he:d=n+1
  ·subst he
   rcases h.1 with h3 | h3
   ·have:=Nat.le_of_ble_eq_true h3;omega
   ·exact Nat.ne_of_beq_eq_false h3
  ·exact noDiv_at h.2 h1 (by omega)
theorem qG_noDiv:vFp qG 32768=true:=by kernel_rfl
theorem qG_coprime {k:Nat} (h1:0 < k) (h2:k < qG):Nat.gcd k qG=1:=by
 have hd:Nat.gcd k qG ∣ qG:=Nat.gcd_dvd_right k qG
 have hk:Nat.gcd k qG≤k:=Nat.gcd_le_left _ h1
 have hp:0 < Nat.gcd k qG:=Nat.gcd_pos_of_pos_left _ h1
 generalize Nat.gcd k qG=g at hd hk hp
 obtain ⟨c,hc⟩:=hd
 by_cases hg:g=1
 ·exact hg
 exfalso
 have hq:qG=1073741789:=rfl
 have hc2:2≤c:=by
  rcases Nat.lt_or_ge c 2 with h | h
  ·have:c=0∨c=1:=by omega
   rcases this with rfl | rfl
   ·omega
   ·omega
  ·exact h
 rcases Nat.lt_or_ge g 32769 with hl | hl
 ·exact noDiv_at qG_noDiv (d:=g) (by omega) (by omega) (by rw [hc];exact Nat.mul_mod_right g c)
 ·rcases Nat.lt_or_ge c 32769 with hm | hm
  ·exact noDiv_at qG_noDiv (d:=c) hc2 (by omega) (by rw [hc];exact Nat.mul_mod_left g c)
  ·have:=Nat.mul_le_mul hl hm
   omega
theorem vHw:4 ^ qG % pG=1:=by
 have h:qOx 31 4 qG 1=1:=by kernel_rfl
 rw [powX_eq 31 4 qG 1 (by decide) (by decide),Nat.one_mul] at h
 exact h
theorem qNg {a k:Nat} (h:a ^ k % pG=1) (m:Nat):a ^ (k*m) % pG=1:=by
 rw [Nat.pow_mul,Nat.pow_mod,h,Nat.one_pow];rfl
theorem qVt (a:Nat) (m n:Nat):a ^ m % pG=1→a ^ n % pG=1→a ^ (Nat.gcd m n) % pG=1:=by
 induction m,n using Nat.gcd.induction with
 | H0 n=>intro _ h;simpa using h
 | H1 m n hm ih =>
  intro h1 h2
  rw [Nat.gcd_rec]
  refine ih ?_ h1
  have e:n=m*(n / m)+n % m:=(Nat.div_add_mod n m).symm
  rw [e,Nat.pow_add,Nat.mul_mod,qNg h1,Nat.one_mul,Nat.mod_mod] at h2
  exact h2
theorem vFk {k:Nat} (hk:1≤k∧k < qG):qDe ((4 ^ k % pG:Nat):Int)=true:=by
 have hone:4 ^ k % pG≠1:=fun h=>by
  have:=qVt 4 k qG h vHw
  rw [qG_coprime hk.1 hk.2] at this
  exact absurd this (by decide)
 have hpow:(4 ^ k % pG) ^ qG % pG=1:=by
  rw [← Nat.pow_mod,← Nat.pow_mul,Nat.mul_comm,qNg vHw]
 have hpos:0 < 4 ^ k % pG:=by
  rcases Nat.eq_zero_or_pos (4 ^ k % pG) with h | h
  ·rw [h,Nat.zero_pow (by decide)] at hpow
   exact absurd hpow (by decide)
  ·exact h
 have hlt:4 ^ k % pG < 2147483579:=Nat.mod_lt _ (by decide)
 unfold qDe qGg
 rw [Int.toNat_natCast,powX_eq 30 _ _ _ (by decide) (by decide),Nat.one_mul,hpow]
 generalize 4 ^ k % pG=x at hone hpos hlt
 have h1:(0:Int) < (x:Int):=by omega
 have h2:((x:Nat):Int)≠1:=by omega
 have h3:(x:Int) < 2147483579:=by omega
 rw [decide_eq_true (show (0:Int) < (x:Int)∧(x:Int) < 2147483579 from ⟨h1,h3⟩),decide_eq_true h2]
 rfl
end Tdoc
namespace Tdoc
open Go
end Tdoc
namespace Tdoc
open Go
def nbV (v:List UInt8):Nat:=v.foldl (fun n c=>256*n+c.toNat) 0
def qEj (seed:List UInt8) (n:Nat):List UInt8:=(((List.range ((n+31) / 32)).map fun i=>qJi (seed++1::qAu 4 i)).flatten).take n
def qAv (seed:List UInt8):List UInt8:=qJi (seed++[0])
def qDr (seed:List UInt8):Nat:=1+nbV ((qEj seed 8).take 7) % (qG-1)
theorem secS_range (seed:List UInt8):1≤qDr seed∧qDr seed < qG:=by
 have h:nbV ((qEj seed 8).take 7) % (qG-1) < qG-1:=Nat.mod_lt _ (by decide)
 have hq:qG=1073741789:=rfl
 unfold qDr
 omega
theorem drawS_one (seed:List UInt8) (n:Nat) (h1:1≤n) (h2:n≤32):qEj seed n=(qJi (seed++1::qAu 4 0)).take n:=by
 unfold qEj
 rw [show (n+31) / 32=1 by omega]
 simp [List.range_succ]
def qPq (n:Nat) (msg:List UInt8) (m:Nat):Nat:=nbV ((qJi (qAu 4 n++msg)).take 7) % m
def qJu (k:Nat):Nat:=4 ^ k % pG
def qGq (k:Nat) (msg:List UInt8):Nat×Nat :=
 (qPq (qJu (1+qPq k msg (qG-1))) msg qG,(1+qPq k msg (qG-1)+qPq (qJu (1+qPq k msg (qG-1))) msg qG*k) % qG)
theorem numS_lt (n:Nat) (msg:List UInt8) {m:Nat} (h:0 < m):qPq n msg m < m:=Nat.mod_lt _ h
theorem signS_range (k:Nat) (msg:List UInt8):(qGq k msg).1 < qG∧(qGq k msg).2 < qG:=⟨numS_lt _ _ (by decide),Nat.mod_lt _ (by decide)⟩
theorem pubS_elem {k:Nat} (h:1≤k∧k < qG):qDe ((qJu k:Nat):Int)=true:=vFk h
theorem pubS_lt (k:Nat):qJu k < pG:=Nat.mod_lt _ (by decide)
structure Nal where
 sta:List UInt8
 kind:Int
 num:Int
 iss:Int
 own:Int
 key:Int
 frm:Int
 unt:Int
 til:Int
 sE:Int
 sS:Int
def qJh (c:Nal):List Dat:=[.str c.sta,.int .i64 c.kind,.int .i64 c.num,.int .i64 c.iss,.int .i64 c.own,.int .i64 c.key,.int .i64 c.frm,.int .i64 c.unt,.int .i64 c.til,.int .i64 c.sE,.int .i64 c.sS]
def qBb (l:List Nal):List (List Dat):=l.map qJh
def qBi (c:Nal):List AV:=[.d (.str c.sta),.d (.int .i64 c.kind),.d (.int .i64 c.num),.d (.int .i64 c.iss),.d (.int .i64 c.own),.d (.int .i64 c.key),.d (.int .i64 c.frm),.d (.int .i64 c.unt),.d (.int .i64 c.til),.d (.int .i64 c.sE),.d (.int .i64 c.sS)]
def qOy (c:Nal):AV:=.agg (qBi c)
def nl0:Nal:=⟨[],0,0,0,0,0,0,0,0,0,0⟩
def qCo (s:List UInt8):Bool:=decide (1≤s.length∧s.length≤3)&&s.all qHr
def qEs (n:Int):Bool:=decide (1≤n∧n≤1073741824)
def qCx (c:Nal):Int :=
 if qCo c.sta=false then 60
 else if c.kind < 1∨c.kind > 4 then 61
 else if qEs c.num=false∨qEs c.iss=false∨qEs c.own=false∨(decide (c.iss=c.own)≠decide (c.kind=1)) then 3
 else if qDe c.key=false then 10
 else if c.frm < 0∨c.frm > c.unt∨c.unt > c.til∨c.til > 73048 then 8 else 0
def qBf (c:Nal):Node:=.mk 48 [] [.mk 19 c.sta [],.mk 129 [UInt8.ofNat c.kind.toNat] [],.mk 130 (qAu 4 c.num.toNat) [],.mk 131 (qAu 4 c.iss.toNat) [],.mk 132 (qAu 4 c.own.toNat) [],.mk 133 (qAu 4 c.key.toNat) [],
 .mk 134 (qAu 3 c.frm.toNat++qAu 3 c.unt.toNat++qAu 3 c.til.toNat) []]
def qOb (c:Nal):List UInt8×Int:=if qCx c≠0 then ([],qCx c) else (wrL [qBf c],0)
def qBr (k:Nat) (c:Nal):Nal:={ c with sE:=((qGq k (wrL [qBf c])).1:Nat),sS:=((qGq k (wrL [qBf c])).2:Nat) }
structure Dfc where
 kind:Int
 param:Int
 signer:Int
 first:List UInt8
 last:List UInt8
def vJb (x:Dfc):List Dat:=[.int .i64 x.kind,.int .i64 x.param,.int .i64 x.signer,.str x.first,.str x.last]
def qHk (l:List Dfc):List (List Dat):=l.map vJb
structure Aut where
 sta:List UInt8
 roots:List Nal
 links:List Nal
 secs:List Nat
 signer:Nal
 lister:Nal
 sk:Nat
 lk:Nat
 next:Nat
 list:Int
 rev:List Int
 defs:List Dfc
 seed:List UInt8
def aut0:Aut:=⟨[],[],[],[],nl0,nl0,0,0,0,0,[],[],[]⟩
def encNs' (l:List Nat):List (List Dat):=l.map fun (n:Nat)=>[Dat.int .i64 (n:Int)]
def vJp (a:Aut) (rc lc sc:AV):List AV:=[.d (.str a.sta),rc,lc,sc]++qBi a.signer++qBi a.lister++[.d (.int .i64 (a.sk:Int)),.d (.int .i64 (a.lk:Int)),.d (.int .i64 (a.next:Int)),.d (.int .i64 a.list),.d (.sl 1 (a.rev.map fun n=>[.int .i64 n])),.d (.sl 5 (qHk a.defs)),.d (.sl 1 (qAl a.seed))]
def qAe (a:Aut):List AV:=vJp a (.d (.sl 11 (qBb a.roots))) (.d (.sl 11 (qBb a.links))) (.d (.sl 1 (encNs' a.secs)))
def qEp (a:Aut):AV:=.agg (qAe a)
def qDg (day n:Int):Int:=min (day+n) 73048
def qHu (a:Aut) (kind:Int) (issuer own k:Nat) (day u t:Int):Nal:=⟨a.sta,kind,a.next,issuer,own,qJu k,day,qDg day u,qDg day t,0,0⟩
def qBq (a:Aut) (day:Int):Aut :=
 let n:=a.secs.length
 let old:=a.secs.getD (n-1) 0
 let k:=qDr a.seed
 let s:=qBr old (qHu a 3 n (1000+a.next) k day 90 3740)
 let seed1:=qAv a.seed
 let a1:Aut:={ a with signer:=s,sk:=k,next:=a.next+1,seed:=seed1 }
 let k2:=qDr seed1
 let l:=qBr old (qHu a1 4 n (1000+a1.next) k2 day 365 730)
 { a1 with lister:=l,lk:=k2,next:=a1.next+1,seed:=qAv seed1 }
def qCv (a:Aut) (day:Int):Aut :=
 let k:=qDr a.seed
 let n:=a.secs.length+1
 { a with secs:=a.secs++[k],seed:=qAv a.seed,roots:=a.roots++[qBr k (qHu a 1 n n k day 1825 5475)],next:=a.next+1 }
def qUb (sta seed:List UInt8) (day:Int):Aut:=qBq (qCv ⟨sta,[],[],[],nl0,nl0,0,0,1,1,[],[],seed⟩ day) day
def qHq (a:Aut) (day:Int):Aut :=
 let n:=a.secs.length
 { a with links:=a.links++[qBr (a.secs.getD (n-2) 0) (qHu a 2 (n-1) n (a.secs.getD (n-1) 0) day 1825 5475)],next:=a.next+1 }
def qZg (a:Aut) (day:Int):Aut:=qBq (qHq (qCv a day) day) day
def qIi (sta seed:List UInt8) (day:Int):Aut×Int :=
 if qCo sta=false then (aut0,60) else if day < 0∨73048 < day then (aut0,8) else (qUb sta seed day,0)
def qVn (a:Aut) (day:Int):Aut×Int :=
 if a.secs.length=0 then (aut0,23) else if day < 0∨73048 < day then (aut0,8) else if 8≤a.secs.length then (aut0,72) else (qZg a day,0)
end Tdoc
namespace Tdoc
open Go
theorem certF_chk {a:Aut} (ha:qCo a.sta=true) (hn:1≤a.next∧a.next≤1000000) {kind:Int} {issuer own k:Nat} {day u t:Int} (hk:1≤kind∧kind≤4) (hi:1≤issuer∧issuer≤1000000000) (ho:1≤own∧own≤1000000000)
  (hd:issuer=own↔kind=1) (hs:1≤k∧k < qG) (hday:0≤day∧day≤73048) (hu:0≤u∧u≤t):qCx (qHu a kind issuer own k day u t)=0:=by
 have he:=pubS_elem hs
 unfold qCx qHu
 simp only
 rw [if_neg (by simp [ha]),if_neg (by omega),if_neg ?_,if_neg (by simp [he]),if_neg (by unfold qDg;omega)]
 have h1:qEs ((a.next:Nat):Int)=true:=by unfold qEs;exact decide_eq_true (by omega)
 have h2:qEs ((issuer:Nat):Int)=true:=by unfold qEs;exact decide_eq_true (by omega)
 have h3:qEs ((own:Nat):Int)=true:=by unfold qEs;exact decide_eq_true (by omega)
 have h4:decide (((issuer:Nat):Int)=((own:Nat):Int))=decide (kind=1):=by
  by_cases hq:kind=1
  ·rw [decide_eq_true hq,decide_eq_true (by have:=hd.2 hq;omega)]
  ·rw [decide_eq_false hq,decide_eq_false (fun h=>hq (hd.1 (by omega)))]
 simp [h1,h2,h3,h4]
theorem qIt {d:Nat} {t:Int} {v:List UInt8} (h1:qCs t=true) (h2:qBd t=false) (hd:d≤8):(qGc d (.mk t v []) 0).1=0:=by
 rw [qGc,if_neg (by simp [h1]),if_neg (by simp [h2]),if_neg (by omega)];rfl
theorem qGv {d:Nat} {t:Int} {k:List Node} (h1:qCs t=true) (h2:qBd t=true) (hd:d≤8) (hk:∀ n,n∈k→(qGc (d+1) n 0).1=0):(qGc d (.mk t [] k) 0).1=0:=by
 rw [qGc,if_neg (by simp [h1]),if_neg (by simp [h2]),if_neg (by omega)];exact chkL_of hk
theorem vGp (c:Nal):(qDt 1 [qBf c] 0).1=0:=by
 refine chkL_of fun m hm=>?_
 rw [List.mem_singleton.1 hm]
 unfold qBf
 refine qGv (by decide) (by decide) (by omega) fun n hn=>?_
 simp only [List.mem_cons,List.not_mem_nil,or_false] at hn
 rcases hn with rfl | rfl | rfl | rfl | rfl | rfl | rfl <;> exact qIt (by decide) (by decide) (by omega)
theorem qIu (c:Nal) (h:c.sta.length≤3):(wrL [qBf c]).length≤200:=by
 have h0:(wrL ([]:List Node)).length=0:=rfl
 have b1:=wrL_cons_length 19 c.sta [] [.mk 129 [UInt8.ofNat c.kind.toNat] [],.mk 130 (qAu 4 c.num.toNat) [],.mk 131 (qAu 4 c.iss.toNat) [],.mk 132 (qAu 4 c.own.toNat) [],.mk 133 (qAu 4 c.key.toNat) [],.mk 134 (qAu 3 c.frm.toNat++qAu 3 c.unt.toNat++qAu 3 c.til.toNat) []]
 have b2:=wrL_cons_length 129 [UInt8.ofNat c.kind.toNat] [] [.mk 130 (qAu 4 c.num.toNat) [],.mk 131 (qAu 4 c.iss.toNat) [],.mk 132 (qAu 4 c.own.toNat) [],.mk 133 (qAu 4 c.key.toNat) [],.mk 134 (qAu 3 c.frm.toNat++qAu 3 c.unt.toNat++qAu 3 c.til.toNat) []]
 have b3:=wrL_cons_length 130 (qAu 4 c.num.toNat) [] [.mk 131 (qAu 4 c.iss.toNat) [],.mk 132 (qAu 4 c.own.toNat) [],.mk 133 (qAu 4 c.key.toNat) [],.mk 134 (qAu 3 c.frm.toNat++qAu 3 c.unt.toNat++qAu 3 c.til.toNat) []]
 have b4:=wrL_cons_length 131 (qAu 4 c.iss.toNat) [] [.mk 132 (qAu 4 c.own.toNat) [],.mk 133 (qAu 4 c.key.toNat) [],.mk 134 (qAu 3 c.frm.toNat++qAu 3 c.unt.toNat++qAu 3 c.til.toNat) []]
 have b5:=wrL_cons_length 132 (qAu 4 c.own.toNat) [] [.mk 133 (qAu 4 c.key.toNat) [],.mk 134 (qAu 3 c.frm.toNat++qAu 3 c.unt.toNat++qAu 3 c.til.toNat) []]
 have b6:=wrL_cons_length 133 (qAu 4 c.key.toNat) [] [.mk 134 (qAu 3 c.frm.toNat++qAu 3 c.unt.toNat++qAu 3 c.til.toNat) []]
 have b7:=wrL_cons_length 134 (qAu 3 c.frm.toNat++qAu 3 c.unt.toNat++qAu 3 c.til.toNat) [] []
 have b8:=wrL_cons_length 48 [] [.mk 19 c.sta [],.mk 129 [UInt8.ofNat c.kind.toNat] [],.mk 130 (qAu 4 c.num.toNat) [],.mk 131 (qAu 4 c.iss.toNat) [],.mk 132 (qAu 4 c.own.toNat) [],.mk 133 (qAu 4 c.key.toNat) [],.mk 134 (qAu 3 c.frm.toNat++qAu 3 c.unt.toNat++qAu 3 c.til.toNat) []] []
 unfold qBf
 simp only [List.length_append,List.length_cons,List.length_nil,octB_length] at b1 b2 b3 b4 b5 b6 b7 b8
 omega
theorem qYk (c:Nal) (h:c.sta.length≤3):qBh [qBf c]=(wrL [qBf c],0):=by
 have hc:=vGp c
 have hl:=qIu c h
 have hcnt:=(chkL_count 1 [qBf c] 0).1
 have hs:qAt [qBf c]≤20:=by simp [qBf,qAt,qCf]
 unfold qBh
 rw [if_neg (by rw [hc];simp),if_neg (by omega),if_neg (by omega)]
theorem vCp {k:Nat} {c:Nal} (h:qCx c=0):qCx (qBr k c)=0:=h
structure AutOk (a:Aut):Prop where
 sta:qCo a.sta=true
 next:1≤a.next∧a.next≤100
 secs:∀ k,k∈a.secs→1≤k∧k < qG
 seed:a.seed.length≤1000
theorem AutOk.last {a:Aut} (h:AutOk a) (hn:1≤a.secs.length):1≤a.secs.getD (a.secs.length-1) 0∧a.secs.getD (a.secs.length-1) 0 < qG:=by
 have:a.secs.getD (a.secs.length-1) 0=a.secs[a.secs.length-1]'(by omega):=by simp [show a.secs.length-1 < a.secs.length by omega]
 rw [this]
 exact h.secs _ (List.getElem_mem _)
theorem rootF_ok {a:Aut} (h:AutOk a) (hn:a.next≤99) (day:Int):AutOk (qCv a day)∧(qCv a day).secs.length=a.secs.length+1∧(qCv a day).next=a.next+1:=by
 refine ⟨⟨h.sta,?_,?_,?_⟩,by simp [qCv],rfl⟩
 ·have:=h.next;show 1≤a.next+1∧a.next+1≤100;omega
 ·intro k hk
  have hk:k∈a.secs++[qDr a.seed]:=hk
  rcases List.mem_append.1 hk with hk | hk
  ·exact h.secs k hk
  ·rw [List.mem_singleton.1 hk];exact secS_range _
 ·show (qJi (a.seed++[0])).length≤1000
  rw [sumW_length];omega
theorem signersF_ok {a:Aut} (h:AutOk a) (hn:a.next≤98) (day:Int):AutOk (qBq a day)∧(qBq a day).secs=a.secs∧(qBq a day).next=a.next+2:=by
 refine ⟨⟨h.sta,?_,h.secs,?_⟩,rfl,rfl⟩
 ·have:=h.next;show 1≤a.next+1+1∧a.next+1+1≤100;omega
 ·show (qJi _).length≤1000
  rw [sumW_length];omega
theorem linkF_ok {a:Aut} (h:AutOk a) (hn:a.next≤99) (day:Int):AutOk (qHq a day)∧(qHq a day).secs=a.secs∧(qHq a day).next=a.next+1:=by
 refine ⟨⟨h.sta,?_,h.secs,h.seed⟩,rfl,rfl⟩
 have:=h.next;show 1≤a.next+1∧a.next+1≤100;omega
end Tdoc
namespace Tdoc
open Go
structure GrpOk (b:List UInt8) (n:Int):Prop where
 op:∃ k,qWa b=(n,k,0)
 len:b.length≤4096
structure Sec where
 ver:Int
 hs:List (Int×List UInt8)
 cert:List UInt8
 sE:Int
 sS:Int
def vKa (h:Int×List UInt8):List Dat:=[.int .i64 h.1,.sl 1 (qAl h.2)]
def qFc (l:List (Int×List UInt8)):List (List Dat):=l.map vKa
theorem encHs_length (l:List (Int×List UInt8)):(qFc l).length=l.length:=by simp [qFc]
theorem encHs_at {l:List (Int×List UInt8)} {i:Nat} (h:i < l.length):(qFc l)[i]?=some (vKa l[i]):=by simp [qFc,h]
def qMq (s:Sec):List AV:=[.d (.int .i64 s.ver),.d (.sl 2 (qFc s.hs)),.d (.sl 1 (qAl s.cert)),.d (.int .i64 s.sE),.d (.int .i64 s.sS)]
def vBt (s:Sec):AV:=.agg (qMq s)
def goH:Int→List (Int×List UInt8)→Int
 | _,[]=>0
 | b,h::l=>if h.1 < 1∨h.1 > 16 then 3 else if h.1≤b then 17 else if h.2.length≠32 then 2 else goH h.1 l
def qTx (s:Sec):Int:=if s.ver≠0∧s.ver≠1 then 3 else if s.hs.length < 1∨s.hs.length > 16 then 2 else goH 0 s.hs
def qHn (b:List UInt8):Bool:=decide (1≤b.length∧b.length≤1024)
def qJb (n:Int):Bool:=decide (0≤n∧n < 1073741789)
def qNe (e s:Int):List UInt8:=qAu 4 e.toNat++qAu 4 s.toNat
def qSt (e s:Int):List UInt8×Int:=if qJb e=false∨qJb s=false then ([],3) else (qNe e s,0)
def vBk (s:Sec):Int:=if qTx s≠0 then qTx s else if qHn s.cert=false then 2 else if (qSt s.sE s.sS).2≠0 then 11 else 0
def qFl (h:Int×List UInt8):Node:=.mk 48 [] [.mk 2 [bOf h.1] [],.mk 4 h.2 []]
def qTf (s:Sec):Node:=.mk 48 [] [.mk 2 [bOf s.ver] [],.mk 48 [] (s.hs.map qFl)]
def qLg (s:Sec):List UInt8×Int:=if qTx s≠0 then ([],qTx s) else qBh [qTf s]
def soN (s:Sec):Node:=.mk 48 [] [.mk 4 (qLg s).1 [],.mk 4 s.cert [],.mk 4 (qNe s.sE s.sS) []]
def qWk (s:Sec):List UInt8×Int:=if vBk s≠0 then ([],vBk s) else qEa 18 [soN s]
theorem sigB_length (e s:Int):(qNe e s).length=8:=by simp [qNe,octB_length]
structure Fil where
 id:Int
 sho:Int
 con:List UInt8
 lev:Int
 rgt:Int
def qQd (f:Fil):List Dat:=[.int .i64 f.id,.int .i64 f.sho,.sl 1 (qAl f.con),.int .i64 f.lev,.int .i64 f.rgt]
def qBj (l:List Fil):List (List Dat):=l.map qQd
theorem encFils_length (l:List Fil):(qBj l).length=l.length:=by simp [qBj]
theorem encFils_at {l:List Fil} {i:Nat} (h:i < l.length):(qBj l)[i]?=some (qQd l[i]):=by simp [qBj,h]
def qZy (f:Fil):AV:=.agg [.d (.int .i64 f.id),.d (.int .i64 f.sho),.d (.sl 1 (qAl f.con)),.d (.int .i64 f.lev),.d (.int .i64 f.rgt)]
def qLf (f g:Fil):Bool:=g.id == f.id||(g.sho == f.sho&&f.sho != 0)
def qTl:List Fil→List Fil→Int
 | _,[]=>0
 | pre,f::l=>if f.id < 1∨f.id > 65535∨f.sho < 0∨f.sho > 30 then 3 else if f.lev < 0∨f.lev > 4∨f.rgt < 0∨f.rgt > (if f.lev=3 then 15 else 0) then 3
  else if f.con.length > 4096 then 2 else if pre.any (qLf f)=true then 15 else qTl (pre++[f]) l
def qHm (l:List Fil):Int:=if l.length > 24 then 2 else qTl [] l
structure Apk where
 name:List UInt8
 files:List Fil
def qQe (a:Apk):List Dat:=[.sl 1 (qAl a.name),.sl 5 (qBj a.files)]
def qBu (l:List Apk):List (List Dat):=l.map qQe
theorem encApks_length (l:List Apk):(qBu l).length=l.length:=by simp [qBu]
theorem encApks_at {l:List Apk} {i:Nat} (h:i < l.length):(qBu l)[i]?=some (qQe l[i]):=by simp [qBu,h]
def vAk (a:Apk):AV:=.agg [.d (.sl 1 (qAl a.name)),.d (.sl 5 (qBj a.files))]
def qWh:List Apk→List Apk→Int
 | _,[]=>0
 | pre,a::l=>if a.name.length < 1∨a.name.length > 16 then 2 else if pre.any (fun b=>a.name == b.name)=true then 15 else if qHm a.files≠0 then qHm a.files else qWh (pre++[a]) l
def qJq (root:List Fil) (apps:List Apk):Int:=if apps.length > 4 then 2 else if qHm root≠0 then qHm root else qWh [] apps
structure Tp where
 holder:List UInt8
 key:Int
 rights:Int
 frm:Int
 til:Int
def vAa (p:Tp):List Dat:=[.str p.holder,.int .i64 p.key,.int .i64 p.rights,.int .i64 p.frm,.int .i64 p.til]
def qCp (l:List Tp):List (List Dat):=l.map vAa
theorem encTps_length (l:List Tp):(qCp l).length=l.length:=by simp [qCp]
theorem encTps_at {l:List Tp} {i:Nat} (h:i < l.length):(qCp l)[i]?=some (vAa l[i]):=by simp [qCp,h]
def vKi (p:Tp):AV:=.agg [.d (.str p.holder),.d (.int .i64 p.key),.d (.int .i64 p.rights),.d (.int .i64 p.frm),.d (.int .i64 p.til)]
def qJo (c:UInt8):Bool:=decide ((65≤bI c∧bI c≤90)∨(48≤bI c∧bI c≤57))
def qHw (s:List UInt8):Bool:=decide (1≤s.length∧s.length≤16)&&qHr (s.getD 0 0)&&s.all qJo
def qJj (p:Tp):Int:=if qHw p.holder=false then 60 else if qDe p.key=false then 10 else if p.rights < 0∨p.rights > 65535 then 62 else if p.frm < 0∨p.frm > p.til∨p.til > 73048 then 8 else 0
def vEv:List Tp→Int
 | []=>0
 | p::l=>if qJj p≠0 then qJj p else vEv l
def qWl:List Tp→List Tp→Bool
 | _,[]=>false
 | pre,p::l=>(pre.any fun q=>q.holder == p.holder)||qWl (pre++[p]) l
def qDo (l:List Tp) (day:Int):Int:=if l.length < 1∨l.length > 2 then 72 else if vEv l≠0 then vEv l else if qWl [] l=true then 15 else if day < 0∨day > 73048 then 8 else 0
def qOz (n:Int):List UInt8:=[bOf (n / 65536),bOf (n / 256),bOf n]
def tpB (p:Tp):List UInt8:=bOf p.holder.length::(p.holder++qAu 4 p.key.toNat++[bOf (p.rights / 256),bOf p.rights]++qOz p.frm++qOz p.til)
def qKm (l:List Tp) (day:Int):List UInt8:=qOz day++[bOf l.length]++(l.map tpB).flatten
def qMi (l:List Tp) (day:Int):List UInt8×Int:=if qDo l day≠0 then ([],qDo l day) else (qKm l day,0)
def vFh (pr ur:Int) (pin:List UInt8) (l:List Tp) (day:Int):List UInt8×Int :=
 if pr < 0∨pr > 15∨ur < 0∨ur > 15 then ([],3) else if pin.length > 16 then ([],2) else if (qMi l day).2≠0 then ([],(qMi l day).2)
 else ([bOf pr,bOf ur,bOf pin.length]++pin++(qMi l day).1,0)
def qPv (n:Nat) (r:List UInt8):List UInt8:=1::(qAu 6 n++qAu 2 r.length++r++List.replicate (256-r.length) 0)
structure Per where
 root:List Fil
 apps:List Apk
 zone:List UInt8
 number:List UInt8
 pin:List UInt8
 puk:List UInt8
 pr:Int
 ur:Int
 basic:Bool
 infos:List Inf
 ck:Int
 ak:Int
 tps:List Tp
 tday:Int
 ident:List UInt8
 seed:List UInt8
def qKq (p:Per):List AV:=[.d (.sl 5 (qBj p.root)),.d (.sl 2 (qBu p.apps)),.d (.str p.zone),.d (.sl 1 (qAl p.number)),.d (.sl 1 (qAl p.pin)),.d (.sl 1 (qAl p.puk)),.d (.int .i64 p.pr),.d (.int .i64 p.ur),.d (.bool p.basic),.d (.sl 5 (qFm p.infos)),
 .d (.int .i64 p.ck),.d (.int .i64 p.ak),.d (.sl 5 (qCp p.tps)),.d (.int .i64 p.tday),.d (.sl 1 (qAl p.ident)),.d (.sl 1 (qAl p.seed))]
def qQt (p:Per):AV:=.agg (qKq p)
def qQz (k:Int):Bool:=decide (0≤k∧k < 1073741789)
def qSo (p:Per):Int :=
 if qJq p.root p.apps≠0 then qJq p.root p.apps
 else if p.zone.length > 64∨p.number.length > 16∨p.pin.length > 16∨p.puk.length > 16 then 2
 else if p.pr < 1∨p.pr > 15∨p.ur < 1∨p.ur > 15 then 3
 else if validI p.infos≠0 then validI p.infos
 else if qQz p.ck=false∨qQz p.ak=false then 3
 else if qDo p.tps p.tday≠0 then qDo p.tps p.tday
 else if p.ident.length < 1∨p.ident.length > 32∨p.seed.length > 64 then 2 else 0
end Tdoc
namespace Tdoc
open Go
theorem wrapG_ok {n:Int} {k:List Node} (h1:1≤n) (h2:n≤16) (hc:(qDt 2 k 0).1=0) (hs:qAt k≤250) (hw:(wrL k).length≤4000):(qEa n k).2=0∧GrpOk (qEa n k).1 n:=by
 obtain ⟨w1,w2,w3⟩:=vBg h1 h2 hc hs hw
 exact ⟨w1,⟨k,w3⟩,w2⟩
theorem vBe {z:Zon} (hv:validZ z=0) (hl:(qCq z).flatten.length≤3900):(qOv z).2=0∧GrpOk (qOv z).1 1:=by
 have h:qOv z=qEa 1 [.mk 24351 (qCq z).flatten []]:=by unfold qOv;rw [if_neg (by rw [hv];simp)]
 rw [h]
 exact wrapG_ok (by omega) (by omega) (by
  refine chkL_of fun m hm=>?_
  rw [List.mem_singleton.1 hm]
  exact chkN_prim (by decide) (by decide) (by omega)) (by simp [qAt,qCf]) (by
  have b:=wrL_cons_length 24351 (qCq z).flatten [] []
  have h0:(wrL ([]:List Node)).length=0:=rfl
  omega)
theorem qYn {n:Int} {l:List Tpl} (hn:2≤n∧n≤4) (h:∀ t,t∈l→qDm t=0∧t.kind=n-1) (h1:1≤l.length) (h2:l.length≤3):(vAi n l).2=0∧GrpOk (vAi n l).1 n:=by
 have hv:=fun t ht=>(h t ht).1
 have he:qJg l=([.mk 32609 [] (qMf l)],0):=by
  unfold qJg
  rw [if_neg (by omega),if_neg (by rw [firstT_zero hv];simp)]
 have hf:qWi n l=true:=by
  unfold qWi
  rw [List.all_eq_true]
  intro t ht
  simp [(h t ht).2]
 have hb:vAi n l=qEa n [.mk 32609 [] (qMf l)]:=by
  unfold vAi
  rw [he,if_neg (by omega),if_neg (by simp),if_neg (by simp [hf])]
 have hsz:=(objTs_fit (l:=l) fun t ht=>by have:=validT_ok (hv t ht);omega).2
 rw [hb]
 exact wrapG_ok (by omega) (by omega) (chkL_of fun m hm=>by
  rw [List.mem_singleton.1 hm]
  refine chkN_cons (by decide) (by decide) (by omega) fun n hn=>?_
  unfold qMf at hn
  rcases List.mem_cons.1 hn with rfl | hn
  ·exact chkN_prim (by decide) (by decide) (by omega)
  ·obtain ⟨t,_,rfl⟩:=List.mem_map.1 hn
   exact vGl t) (by simp only [qAt,qCf,qMf,hsz];omega) (by
  have a:=wrL_cons_length 32609 [] (qMf l) []
  have b:=wrL_cons_length 2 [bOf (l.length:Int)] [] (l.map qJk)
  have c:=vBh hv
  have h0:(wrL ([]:List Node)).length=0:=rfl
  unfold qMf at a ⊢
  simp only [List.length_nil,List.length_cons] at a b
  omega)
theorem setI_chk (l:List Inf):(qDt 2 [qHi l] 0).1=0:=by
 refine chkL_of fun m hm=>?_
 rw [List.mem_singleton.1 hm]
 refine chkN_cons (by decide) (by decide) (by omega) fun n hn=>?_
 obtain ⟨x,_,rfl⟩:=List.mem_map.1 hn
 unfold qKr
 refine chkN_cons (by decide) (by decide) (by omega) fun n hn=>?_
 split at hn
 ·simp only [List.cons_append,List.nil_append,List.mem_cons,List.not_mem_nil,or_false] at hn
  rcases hn with rfl | rfl | rfl <;> exact chkN_prim (by decide) (by decide) (by omega)
 split at hn
 ·simp only [List.cons_append,List.nil_append,List.mem_cons,List.not_mem_nil,or_false] at hn
  rcases hn with rfl | rfl | rfl | rfl <;> exact chkN_prim (by decide) (by decide) (by omega)
 ·simp only [List.cons_append,List.nil_append,List.append_nil,List.mem_cons,List.not_mem_nil,or_false] at hn
  rcases hn with rfl | rfl <;> exact chkN_prim (by decide) (by decide) (by omega)
theorem setI_wr {l:List Inf} (hl:l.length≤7):(wrL [qHi l]).length≤2000:=by
 have a:=qQm l
 have b:=wrL_cons_length 49 [] (l.map qKr) []
 have h0:(wrL ([]:List Node)).length=0:=rfl
 unfold qHi
 simp only [List.length_nil] at b
 omega
theorem vFz {l:List Inf} (hv:validI l=0) (hl:l.length≤7):(infosF l).2=0∧GrpOk (infosF l).1 14:=by
 have hi:infosF l=qEa 14 [qHi l]:=by unfold infosF;rw [if_neg (by rw [hv];simp)]
 obtain ⟨f1,f2⟩:=setI_fit (l:=l) (by omega)
 have hw:=setI_wr hl
 rw [hi]
 exact wrapG_ok (by omega) (by omega) (setI_chk l) (by omega) (by omega)
theorem encI_ok {l:List Inf} (hv:validI l=0) (hl:l.length≤7):(qTr l).2=0∧(qTr l).1.length≤4096:=by
 obtain ⟨f1,f2⟩:=setI_fit (l:=l) (by omega)
 have hw:=setI_wr hl
 have hc:(qDt 1 [qHi l] 0).1=0:=chkL_up 1 _ (setI_chk l)
 have hcnt:=(chkL_count 1 [qHi l] 0).1
 have he:qBh [qHi l]=(wrL [qHi l],0):=by
  unfold qBh
  rw [if_neg (by rw [hc];simp),if_neg (by omega),if_neg (by omega)]
 unfold qTr
 rw [if_neg (by rw [hv];simp),he]
 exact ⟨rfl,by simp only;omega⟩
theorem vGt {key:Int} (hk:qDe key=true):(qIj key).2=0∧GrpOk (qIj key).1 15:=by
 have ha:qIj key=qEa 15 [.mk 4 (qAu 4 key.toNat) []]:=by unfold qIj;rw [if_pos hk]
 rw [ha]
 exact wrapG_ok (by omega) (by omega) (by
  refine chkL_of fun m hm=>?_
  rw [List.mem_singleton.1 hm]
  exact chkN_prim (by decide) (by decide) (by omega)) (by simp [qAt,qCf]) (by
  have b:=wrL_cons_length 4 (qAu 4 key.toNat) [] []
  have h0:(wrL ([]:List Node)).length=0:=rfl
  simp only [octB_length] at b
  omega)
def exM:List UInt8:=[50,48,48,54,50,48]
def zM:Zon:=⟨3,[80],[85,84,79],[69,82,73,75,83,83,79,78],[65,78,78,65,32,77,65,82,73,65],[76,48,48,48,48,65,66],[85,84,79],[55,52,48,56,49,50],[70],exM,[],[]⟩
theorem zM_len:vIa zM:=by unfold vIa;decide
theorem zM_valid:validZ zM=0:=by decide +kernel
theorem zM_lines:(qCq zM).length=2∧(qCq zM).flatten.length=88:=by decide +kernel
def qZz (d:List UInt8):Tpl:=⟨1,0,40010,73048,1,50,d⟩
def qZx (d:List UInt8):Tpl:=⟨2,1,40010,73048,1,50,d⟩
def qEq (k:Int):List Inf:=[⟨2,1,0,0,0⟩,⟨3,1,0,0,0⟩,⟨4,1,0,k,1⟩,⟨5,1,0,0,0⟩,⟨6,1,0,0,0⟩]
def inf2:List Inf:=[⟨2,1,0,0,0⟩,⟨3,1,0,0,0⟩]
theorem infDoc_valid {k:Int} (h:qDe k=true):validI (qEq k)=0:=by
 simp [validI,qEq,vBd,infE,vKk,vKq,vIx,h]
theorem qZt:validI inf2=0:=by decide
theorem faceM_valid {d:List UInt8} (h:d.length=16):qDm (qZz d)=0:=by
 simp [qDm,qZz,qNm,qMj,h]
theorem fingM_valid {d:List UInt8} (h:d.length=16):qDm (qZx d)=0:=by
 simp [qDm,qZx,qNm,qMj,h]
theorem zM_open:(qOv zM).2=0∧GrpOk (qOv zM).1 1:=vBe zM_valid (by rw [zM_lines.2];omega)
theorem faceM_open {d:List UInt8} (h:d.length=16):(vAi 2 [qZz d]).2=0∧GrpOk (vAi 2 [qZz d]).1 2 :=
 qYn (by omega) (fun t ht=>by rw [List.mem_singleton.1 ht];exact ⟨faceM_valid h,rfl⟩) (by simp) (by simp)
theorem fingM_open {d:List UInt8} (h:d.length=16):(vAi 3 [qZx d]).2=0∧GrpOk (vAi 3 [qZx d]).1 3 :=
 qYn (by omega) (fun t ht=>by rw [List.mem_singleton.1 ht];exact ⟨fingM_valid h,rfl⟩) (by simp) (by simp)
theorem infDoc_open {k:Int} (h:qDe k=true):(infosF (qEq k)).2=0∧GrpOk (infosF (qEq k)).1 14:=vFz (infDoc_valid h) (by simp [qEq])
theorem comM:(qLk [1,2,3,14,15]).2=0∧(qLk [1,2,3,14,15]).1.length≤4096:=by decide +kernel
end Tdoc
namespace Tdoc
open Go Go.Proofs
theorem wrapu64 {n:Int} (h:0≤n∧n < 18446744073709551616):IntKind.u64.wrap n=n:=by
 simp only [IntKind.wrap,IntKind.signed,IntKind.bits]
 simp
 omega
def blen (k:Nat):Nat:=if k=0 then 0 else k.log2+1
theorem qRs (k:Nat):k < 2 ^ blen k:=by
 unfold blen
 split
 ·rename_i h;subst h;decide
 ·exact Nat.lt_log2_self
theorem qRt {k:Nat} (h:0 < k):1≤blen k∧2 ^ (blen k-1)≤k:=by
 unfold blen
 rw [if_neg (by omega)]
 exact ⟨by omega,by rw [Nat.add_sub_cancel];exact Nat.log2_self_le (by omega)⟩
theorem vJl {k m:Nat} (h1:k < 2 ^ m) (h2:m=0∨2 ^ (m-1)≤k):blen k=m:=by
 rcases Nat.eq_zero_or_pos k with h0 | h0
 ·subst h0
  rcases h2 with h2 | h2
  ·subst h2;rfl
  ·exact absurd h2 (by have:=Nat.two_pow_pos (m-1);omega)
 ·obtain ⟨a1,a2⟩:=qRt h0
  have a3:=qRs k
  rcases h2 with h2 | h2
  ·subst h2;simp at h1;omega
  ·have b1:blen k-1 < m:=(Nat.pow_lt_pow_iff_right (a:=2) (by omega)).1 (Nat.lt_of_le_of_lt a2 h1)
   have b2:m-1 < blen k:=(Nat.pow_lt_pow_iff_right (a:=2) (by omega)).1 (Nat.lt_of_le_of_lt h2 a3)
   rcases Nat.eq_zero_or_pos m with h | h
   ·subst h;simp at h1;omega
   ·omega
theorem qYm {k n:Nat} (h:2 ^ n≤k):blen k=n+blen (k / 2 ^ n):=by
 have hp:0 < k / 2 ^ n:=Nat.div_pos h (Nat.two_pow_pos n)
 obtain ⟨a1,a2⟩:=qRt hp
 have a3:=qRs (k / 2 ^ n)
 refine vJl ?_ (.inr ?_)
 ·rw [Nat.pow_add,Nat.mul_comm];exact (Nat.div_lt_iff_lt_mul (Nat.two_pow_pos n)).1 a3
 ·rw [show n+blen (k / 2 ^ n)-1=(blen (k / 2 ^ n)-1)+n by omega,Nat.pow_add]
  exact (Nat.le_div_iff_mul_le (Nat.two_pow_pos n)).1 a2
theorem qWn {k i:Nat} (h:i < blen k):k / 2 ^ i≠0:=by
 have h0:0 < k:=by
  rcases Nat.eq_zero_or_pos k with h0 | h0
  ·subst h0;simp [blen] at h
  ·exact h0
 have:=(qRt h0).2
 have h3:2 ^ i≤2 ^ (blen k-1):=Nat.pow_le_pow_right (by omega) (by omega)
 have:=Nat.div_pos (Nat.le_trans h3 this) (Nat.two_pow_pos i)
 omega
theorem vJm {k:Nat} (h:k≤qG):blen k≤30:=by
 rcases Nat.eq_zero_or_pos k with h0 | h0
 ·subst h0;simp [blen]
 ·obtain ⟨a1,a2⟩:=qRt h0
  have hq:qG < 2 ^ 30:=by decide
  have:=(Nat.pow_lt_pow_iff_right (a:=2) (by omega)).1 (Nat.lt_of_le_of_lt a2 (Nat.lt_of_le_of_lt h hq))
  omega
set_option maxRecDepth 100000 in
theorem qYl:∀ n,n < 256→blen n=if n=0 then 0 else if n=1 then 1 else if n < 4 then 2 else if n < 8 then 3 else if n < 16 then 4 else if n < 32 then 5 else if n < 64 then 6 else if n < 128 then 7 else 8:=by
 have h:∀ n,n∈List.range 256→blen n=if n=0 then 0 else if n=1 then 1 else if n < 4 then 2 else if n < 8 then 3 else if n < 16 then 4 else if n < 32 then 5 else if n < 64 then 6 else if n < 128 then 7 else 8:=by decide
 exact fun n hn=>h n (List.mem_range.2 hn)
def vCj:List UInt8:=(List.range 256).map fun n=>UInt8.ofNat (if n=0 then 0 else if n=1 then 1 else if n < 4 then 2 else if n < 8 then 3 else if n < 16 then 4 else if n < 32 then 5 else if n < 64 then 6 else if n < 128 then 7 else 8)
set_option maxRecDepth 100000 in
theorem lenTab_at {n:Nat} (h:n < 256):qDk vCj (n:Int)=((blen n:Nat):Int):=by
 have hc:∀ n,n∈List.range 256→qDk vCj ((n:Nat):Int)=((if n=0 then 0 else if n=1 then 1 else if n < 4 then 2 else if n < 8 then 3 else if n < 16 then 4 else if n < 32 then 5 else if n < 64 then 6 else if n < 128 then 7 else 8:Nat):Int):=by decide
 rw [hc n (List.mem_range.2 h),qYl n h]
theorem qWz (k:Nat) (hk:k < 4294967296):Spec Tryz.prog 338 [.d (.int .u64 (k:Int))] [] (fun r h'=>r=.d (.int .i64 (blen k:Int))∧h'=[]):=by
 refine qAb hT Tryz.func338 rfl rfl rfl rfl ?_;intro E hE
 refine ww ?_
 refine qAa rfl (fun h1=>?_) (fun h1=>?_)
 ·exact absurd h1 (by simp;omega)
 refine qBv ?_
 refine qCd (ι:=Nat×Nat) (fun y=>[(0,.d (.int .u64 (y.1:Int))),(2,.d (.int .i64 (y.2:Int)))]) (fun _=>[]) (fun y=>y.1 < 65536∧y.2+blen y.1=blen k∧y.2≤16) ?_ ?_
 ·refine ww ?_
  refine qAa rfl (fun h2=>?_) (fun h2=>?_)
  ·have h2':65536≤k:=by simp at h2;omega
   have hb:=qYm (k:=k) (n:=16) h2'
   have hs:Int.fdiv (k:Int) (2 ^ (min (16:Int).toNat IntKind.u64.bits))=((k / 2 ^ 16:Nat):Int):=qDq k 16
   refine ww ?_
   exact ⟨(k / 2 ^ 16,16),⟨by simp only;omega,hb.symm,by omega⟩,⟨.int hs,.refl _,trivial⟩,HLe.refl _⟩
  ·have h2':k < 65536:=by simp at h2;omega
   refine ww ?_
   exact ⟨(k,0),⟨h2',Nat.zero_add _,by omega⟩,⟨.refl _,.refl _,trivial⟩,HLe.refl _⟩
 rintro ⟨y,n⟩ ⟨hy,hn,hn2⟩
 simp only at hy hn hn2 ⊢
 refine qCd (ι:=Nat×Nat) (fun y=>[(0,.d (.int .u64 (y.1:Int))),(2,.d (.int .i64 (y.2:Int)))]) (fun _=>[]) (fun y=>y.1 < 256∧y.2+blen y.1=blen k∧y.2≤24) ?_ ?_
 ·refine ww ?_
  refine qAa rfl (fun h2=>?_) (fun h2=>?_)
  ·have h2':256≤y:=by simp at h2;omega
   have hb:=qYm (k:=y) (n:=8) h2'
   have hs:Int.fdiv (y:Int) (2 ^ (min (8:Int).toNat IntKind.u64.bits))=((y / 2 ^ 8:Nat):Int):=qDq y 8
   refine ww ?_
   exact ⟨(y / 2 ^ 8,n+8),⟨by simp only;omega,by simp only;omega,by simp only;omega⟩,⟨.int hs,.int (by rw [qAf (by omega)];omega),trivial⟩,HLe.refl _⟩
  ·have h2':y < 256:=by simp at h2;omega
   refine ww ?_
   exact ⟨(y,n),⟨h2',hn,by simp only;omega⟩,⟨.refl _,.refl _,trivial⟩,HLe.refl _⟩
 rintro ⟨z,m⟩ ⟨hz,hm,hm2⟩
 simp only at hz hm hm2 ⊢
 have hw:IntKind.u8.wrap (z:Int)=(z:Int):=wrapu8 (by omega)
 have hat:=lenTab_at hz
 have hbz:blen z≤8:=by rw [qYl z hz];repeat (first | omega | split)
 refine ww ?_
 refine rq ⟨rfl,rfl⟩ rfl (AV.le.int ?_)
 show IntKind.i64.wrap ((m:Int)+IntKind.i64.wrap (qDk vCj (IntKind.u8.wrap (z:Int))))=_
 rw [hw,hat,qAf (n:=((blen z:Nat):Int)) (by omega),qAf (by omega)]
 omega
theorem vEe (k:Nat) (hk:k < 4294967296):Spec Tryz.prog 268 [.d (.int .u64 (k:Int))] [] (fun r h'=>r=.d (.int .i64 (blen k:Int))∧h'=[]):=by
 refine qAb hT Tryz.func268 rfl rfl rfl rfl ?_;intro E hE
 refine ww ?_
 refine qAa rfl (fun h1=>?_) (fun h1=>?_)
 ·exact absurd h1 (by decide)
 refine ww ?_
 refine wwc (qWz k hk) ?_
 refine ww ?_
 exact wwr
theorem powerK_spec (x k:Nat) (hx:x < pG) (hk:k≤qG):Spec Tryz.prog 173 [.d (.int .i64 (x:Int)),.d (.int .i64 (k:Int))] [] (fun r h'=>r=.d (.int .i64 ((x ^ k % pG:Nat):Int))∧h'=[]):=by
 have hq:qG=1073741789:=rfl
 have hlen:Spec Tryz.prog 268 [.d (.int .u64 (IntKind.u64.wrap (k:Int)))] [] (fun r h'=>r=.d (.int .i64 (blen k:Int))∧h'=[]):=by
  rw [wrapu64 (by omega)];exact vEe k (by omega)
 have hfin:=powX_eq (blen k) x k 1 (qRs k) (by decide)
 rw [Nat.one_mul] at hfin
 have hb30:=vJm hk
 have hbz:k / 2 ^ blen k=0:=Nat.div_eq_of_lt (qRs k)
 have hne:∀ i,i < blen k→k / 2 ^ i≠0:=fun i h=>qWn h
 generalize x ^ k % pG=fin at hfin
 generalize blen k=bl at hlen hfin hb30 hbz hne
 refine qAb hT Tryz.func173 rfl rfl rfl rfl ?_;intro E hE
 refine ww ?_
 refine wwc hlen ?_
 refine ww ?_
 refine qAp (ι:=Nat×Nat×Nat) (fun y=>[(0,.d (.int .i64 (y.2.1:Int))),(1,.d (.int .i64 (k:Int))),(5,.d (.int .i64 (y.2.2:Int))),(9,.d (.int .i64 (bl:Int))),(10,.d (.int .i64 (y.1:Int)))]) (fun _=>[])
  (fun y=>y.1≤bl∧y.2.1 < pG∧y.2.2 < pG∧qOx (bl-y.1) y.2.1 (k / 2 ^ y.1) y.2.2=fin) (fun y=>bl-y.1) (0,x,1) ⟨by omega,hx,show 1 < pG by decide,by simpa using hfin⟩ ⟨.refl _,.refl _,.refl _,.refl _,.refl _,trivial⟩ (HLe.refl _) ?_
 rintro ⟨i,x,out⟩ ⟨hi,hx,ho,hg⟩
 simp only at hi hx ho hg ⊢
 refine ww ?_
 refine qAa rfl (fun h1=>?_) (fun h1=>?_)
 ·have h1':i < bl:=by simp at h1;omega
  have hq:=hne i h1'
  have hq2:k / 2 ^ i < 9223372036854775808:=Nat.lt_of_le_of_lt (Nat.div_le_self _ _) (by omega)
  obtain ⟨m,hm⟩:∃ m,bl-i=m+1:=⟨bl-i-1,by omega⟩
  rw [hm,qOx,if_neg hq,Nat.div_div_eq_div_mul,← Nat.pow_succ] at hg
  have hm':m=bl-(i+1):=by omega
  subst hm'
  have hsh:Int.fdiv (k:Int) (2 ^ (min ((i:Int)).toNat IntKind.i64.bits))=((k / 2 ^ i:Nat):Int):=by
   rw [show min ((i:Int)).toNat IntKind.i64.bits=i by simp [IntKind.bits];omega]
   exact qDq k i
  have hand:IntKind.i64.wrap ((BitVec.ofInt IntKind.i64.bits (Int.fdiv (k:Int) (2 ^ (min ((i:Int)).toNat IntKind.i64.bits))) &&& BitVec.ofInt IntKind.i64.bits 1).toNat:Int)=((k / 2 ^ i % 2:Nat):Int):=by
   rw [hsh]
   have:=qRx (a:=k / 2 ^ i) (b:=1) hq2 (by omega)
   rw [Nat.and_one_is_mod] at this
   exact this
  have hxx:=mulP_lt hx hx
  have hox:=mulP_lt ho hx
  have hm1:IntKind.i64.wrap ((x:Int)*(x:Int))=((x*x:Nat):Int):=by rw [← Int.natCast_mul];exact qAf (by omega)
  have hm2:IntKind.i64.wrap ((out:Int)*(x:Int))=((out*x:Nat):Int):=by rw [← Int.natCast_mul];exact qAf (by omega)
  have ht1:Int.tmod (IntKind.i64.wrap ((x:Int)*(x:Int))) 2147483579=((x*x % pG:Nat):Int):=by rw [hm1];rfl
  have ht2:Int.tmod (IntKind.i64.wrap ((out:Int)*(x:Int))) 2147483579=((out*x % pG:Nat):Int):=by rw [hm2];rfl
  have hwi:IntKind.i64.wrap ((i:Int)+1)=((i+1:Nat):Int):=by rw [qAf (by omega)];omega
  have hl1:x*x % pG < pG:=Nat.mod_lt _ (by decide)
  have hl2:out*x % pG < pG:=Nat.mod_lt _ (by decide)
  generalize k / 2 ^ i % 2=bt at hand hg
  refine ww ?_
  refine qAa rfl (fun h2=>?_) (fun h2=>?_)
  ·have h2':bt=1:=by rw [hand] at h2;simp at h2;omega
   rw [if_pos h2'] at hg
   refine ww ?_
   exact ⟨(i+1,x*x % pG,out*x % pG),⟨h1',hl1,hl2,hg⟩,by simp only;omega,⟨.int ht1,.refl _,.int ht2,.refl _,.int hwi,trivial⟩,HLe.refl _⟩
  ·have h2':¬ bt=1:=by rw [hand] at h2;simp at h2;omega
   rw [if_neg h2'] at hg
   refine ww ?_
   exact ⟨(i+1,x*x % pG,out),⟨h1',hl1,ho,hg⟩,by simp only;omega,⟨.int ht1,.refl _,.refl _,.refl _,.int hwi,trivial⟩,HLe.refl _⟩
 ·have h1':i=bl:=by simp at h1;omega
  subst h1'
  have hg':out=fin:=by rw [← hg,Nat.sub_self];rfl
  subst hg'
  refine ww ?_
  exact wwr
end Tdoc
namespace Tdoc
open Go
def qJy (l:List (List UInt8)):List (List Dat):=l.map fun b=>[.sl 1 (qAl b)]
theorem encBs_length (l:List (List UInt8)):(qJy l).length=l.length:=by simp [qJy]
theorem encBs_at {l:List (List UInt8)} {i:Nat} (h:i < l.length):(qJy l)[i]?=some [.sl 1 (qAl (l.getD i []))]:=by
 unfold qJy
 rw [List.getElem?_map,List.getElem?_eq_getElem h]
 simp [h]
def qMg (l:List (List UInt8)) (i:Nat):List UInt8:=(l.take i).flatten
theorem flatN_succ {l:List (List UInt8)} {i:Nat} (h:i < l.length):qMg l (i+1)=qMg l i++l.getD i []:=by
 unfold qMg
 rw [List.take_add_one,List.flatten_append,List.getElem?_eq_getElem h]
 simp [h]
theorem flatN_all (l:List (List UInt8)):qMg l l.length=l.flatten:=by unfold qMg;rw [List.take_length]
theorem flatN_le (l:List (List UInt8)):∀ (i:Nat),i≤l.length→(qMg l i).length≤l.flatten.length:=by
 intro i hi
 have h:l.flatten=qMg l i++(l.drop i).flatten:=by unfold qMg;rw [← List.flatten_append,List.take_append_drop]
 rw [h,List.length_append];omega
def qIf (seed:List UInt8) (i:Nat):List UInt8:=((List.range i).map fun i=>qJi (seed++1::qAu 4 i)).flatten
theorem drawN_succ (seed:List UInt8) (i:Nat):qIf seed (i+1)=qIf seed i++qJi (seed++1::qAu 4 i):=by
 unfold qIf
 rw [List.range_succ,List.map_append,List.flatten_append]
 simp
theorem drawN_length (seed:List UInt8):∀ i,(qIf seed i).length=32*i
 | 0=>rfl
 | i+1=>by rw [drawN_succ,List.length_append,drawN_length seed i,sumW_length];omega
theorem drawS_eq (seed:List UInt8) (n i:Nat) (h1:n≤32*i) (h2:32*i < n+32):qEj seed n=(qIf seed i).take n:=by
 have:(n+31) / 32=i:=by omega
 unfold qEj
 rw [this];rfl
theorem drawS_length (seed:List UInt8) (n:Nat):(qEj seed n).length=n:=by
 rw [drawS_eq seed n ((n+31) / 32) (by omega) (by omega),List.length_take,drawN_length];omega
theorem secS_eq (seed:List UInt8):qDr seed=1+nbV ((qEj seed 8).take 7) % (qG-1):=rfl
end Tdoc
namespace Tdoc
open Go Go.Proofs
theorem wshl (x:BitVec 32) (m:Int):IntKind.u32.wrap (wI x*2 ^ (min m.toNat IntKind.u32.bits))=wI (x <<< (min m.toNat 32)):=wI_shl x _
theorem wshr (x:BitVec 32) (m:Int):Int.fdiv (wI x) (2 ^ (min m.toNat IntKind.u32.bits))=wI (x >>> (min m.toNat 32)):=wI_shr x _
theorem vIh {n:Nat} (h:1≤n∧n≤31):IntKind.u64.wrap ((BitVec.ofInt IntKind.u64.bits (IntKind.u64.wrap (-(n:Int))) &&& BitVec.ofInt IntKind.u64.bits 31).toNat:Int)=((32-n:Nat):Int):=by
 have hc:∀ n,n∈List.range 32→1≤n→IntKind.u64.wrap ((BitVec.ofInt IntKind.u64.bits (IntKind.u64.wrap (-((n:Nat):Int))) &&& BitVec.ofInt IntKind.u64.bits 31).toNat:Int)=((32-n:Nat):Int):=by decide
 exact hc n (List.mem_range.2 (by omega)) h.1
theorem vDu (x:BitVec 32) (n:Nat) (h:1≤n∧n≤31):Spec Tryz.prog 390 [uV x,.d (.int .i64 (-(n:Int)))] [] (fun r h'=>r=uV (qKl x n)∧h'=[]):=by
 have hr:=vIh h
 refine qAb hT Tryz.func390 rfl rfl rfl rfl ?_;intro E hE
 refine qAk (qAg ?_)
 refine wws ?_
 refine qAk (qAg ?_)
 refine wws ?_
 refine qAo (l:=[(0,uV x),(5,.d (.int .u64 ((32-n:Nat):Int)))]) (h':=[]) ⟨.refl _,.int hr,trivial⟩ (HLe.refl _) ?_
 have h2:IntKind.u64.wrap (32-((32-n:Nat):Int))=(n:Int):=by rw [wrapu64 (by omega)];omega
 have h3:IntKind.u32.wrap (wI x*2 ^ (min (((32-n:Nat):Int)).toNat IntKind.u32.bits))=wI (x <<< (32-n)):=by
  rw [wshl,Int.toNat_natCast,show min (32-n) 32=32-n by omega]
 have h4:Int.fdiv (wI x) (2 ^ (min (IntKind.u64.wrap (32-((32-n:Nat):Int))).toNat IntKind.u32.bits))=wI (x >>> n):=by
  rw [h2,wshr,Int.toNat_natCast,show min n 32=n by omega]
 refine ww ?_
 refine rq ⟨rfl,rfl⟩ rfl (AV.le.int ?_)
 show IntKind.u32.wrap ((BitVec.ofInt IntKind.u32.bits (IntKind.u32.wrap (wI x*2 ^ (min (((32-n:Nat):Int)).toNat IntKind.u32.bits))) ||| BitVec.ofInt IntKind.u32.bits (Int.fdiv (wI x) (2 ^ (min (IntKind.u64.wrap (32-((32-n:Nat):Int))).toNat IntKind.u32.bits)))).toNat:Int)=_
 rw [h3,h4,wI_or,rotW_comm]
def qVm (x:BitVec 32) (l:List Nat):BitVec 32:=l.foldl (fun a n=>a ^^^ qKl x n) 0
theorem rotsW_take (x:BitVec 32) (l:List Nat) {i:Nat} (h:i < l.length):qVm x (l.take (i+1))=qVm x (l.take i) ^^^ qKl x (l.getD i 0):=by
 unfold qVm
 rw [List.take_add_one,List.foldl_append,List.getElem?_eq_getElem h]
 simp [h]
theorem encNs'_at {l:List Nat} {i:Nat} (h:i < l.length):(encNs' l)[i]?=some [.int .i64 ((l.getD i 0:Nat):Int)]:=by
 unfold encNs'
 rw [List.getElem?_map,List.getElem?_eq_getElem h]
 simp [h]
theorem qXt (x:BitVec 32) (l:List Nat) (hl:l.length≤10) (hn:∀ n,n∈l→1≤n∧n≤31):Spec Tryz.prog 389 [uV x,.d (.sl 1 (encNs' l))] [] (fun r h'=>r=uV (qVm x l)∧h'=[]):=by
 have hlen:(encNs' l).length=l.length:=by simp [encNs']
 refine qAb hT Tryz.func389 rfl rfl rfl rfl ?_;intro E hE
 refine ww ?_
 refine qAp (ι:=Nat) (fun i=>[(0,uV x),(5,uV (qVm x (l.take i))),(8,.d (.sl 1 (encNs' l))),(9,.d (.int .i64 (l.length:Int))),(10,.d (.int .i64 (i:Int)))]) (fun _=>[])
  (fun i=>i≤l.length) (fun i=>l.length-i) 0 (Nat.zero_le _) ⟨.refl _,.refl _,.refl _,.int (by rw [hlen]),.refl _,trivial⟩ (HLe.refl _) ?_
 intro i hi
 refine ww ?_
 refine qAa rfl (fun h1=>?_) (fun h1=>?_)
 ·have h1':i < l.length:=by simp at h1;omega
  have hat:=encNs'_at h1'
  have hni:1≤l.getD i 0∧l.getD i 0≤31:=by
   rw [List.getD_eq_getElem?_getD,List.getElem?_eq_getElem h1'];exact hn _ (List.getElem_mem h1')
  have hstep:=rotsW_take x l h1'
  refine ww ?_
  refine wwi hat ?_
  refine ww ?_
  refine wwc (vDu x (l.getD i 0) hni) ?_
  refine ww ?_
  exact ⟨i+1,h1',by omega,⟨.refl _,.int (by rw [hstep];exact wI_xor _ _),.refl _,.refl _,.int (by rw [qAf (by omega)];omega),trivial⟩,HLe.refl _⟩
 ·have h1':i=l.length:=by simp at h1;omega
  subst h1'
  rw [List.take_length]
  refine ww ?_
  exact wwr
theorem encB_getD {b:List UInt8} {i:Nat} (h:i < b.length):(qAl b)[i]?=some [.int .u8 ((b.getD i 0).toNat:Int)]:=encB_byte h
theorem vBi (b:List UInt8) (h:4≤b.length):Spec Tryz.prog 391 [.d (.sl 1 (qAl b))] [] (fun r h'=>r=uV (qSl b 0)∧h'=[]):=by
 have h0:=encB_getD (b:=b) (i:=0) (by omega)
 have h1:=encB_getD (b:=b) (i:=1) (by omega)
 have h2:=encB_getD (b:=b) (i:=2) (by omega)
 have h3:=encB_getD (b:=b) (i:=3) (by omega)
 refine qAb hT Tryz.func391 rfl rfl rfl rfl ?_;intro E hE
 refine ww ?_
 refine wwi h0 ?_
 refine ww ?_
 refine wwi h1 ?_
 refine ww ?_
 refine wwi h2 ?_
 refine ww ?_
 refine wwi h3 ?_
 refine ww ?_
 refine rq ⟨rfl,rfl⟩ rfl (AV.le.int ?_)
 simp only [wI_byte,wshl,wI_or]
 rfl
theorem qZd:Spec Tryz.prog 349 [] [] (fun r h'=>r=.d (.sl 1 (qEz qPj))∧h'=[]):=by
 refine qAb hT Tryz.func349 rfl rfl rfl rfl ?_;intro E hE
 refine ww ?_
 refine rq ⟨rfl,rfl⟩ rfl ?_
 exact AV.le.dat' rfl
theorem bytesOf_spec (x:BitVec 32):Spec Tryz.prog 353 [uV x] [] (fun r h'=>r=.d (.sl 1 (qAl (qEk x)))∧h'=[]):=by
 refine qAb hT Tryz.func353 rfl rfl rfl rfl ?_;intro E hE
 refine ww ?_
 refine rq ⟨rfl,rfl⟩ rfl (AV.le.dat' ?_)
 simp only [wshr,bW_wrap]
 rfl
end Tdoc
namespace Tdoc
open Go Go.Proofs
theorem qUt (es:List (List Dat)) (hl:es.length≤1000000):Spec Tryz.prog 66 [.d (.sl 1 es)] [.room] (fun r h'=>r=.sl 1 es (.right 0)∧h'=[.right 1 es.length]):=by
 refine qAb hT Tryz.func66 rfl rfl rfl rfl ?_;intro E hE
 refine ww ?_
 refine qCr (eqNil_ok hT (fun _=>rfl) rfl rfl rfl) rfl ?_
 rintro v h' ⟨rfl,b,rfl,hb⟩
 refine ww ?_
 refine qAa rfl (fun h1=>?_) (fun h1=>?_)
 ·obtain rfl:=hb h1
  refine qAk (qAg ?_)
  refine wws ?_
  refine qAz 2 1 0 (es:=[]) (.inr ⟨rfl,rfl⟩) rfl ?_
  refine ww ?_
  exact wwr
 ·refine ww ?_
  refine qAd (qCl (i:=0) hT rfl rfl rfl (.inl rfl) (by simp) rfl rfl (by show es.length*(1+1)≤140737488355328;omega)) rfl ?_
  refine ww ?_
  exact wwr
theorem qCb (es:List (List Dat)) (hl:es.length≤1000000):Spec Tryz.prog 66 [.d (.sl 1 es)] [] (fun r h'=>r=.d (.sl 1 es)∧h'=[]):=by
 refine qAb hT Tryz.func66 rfl rfl rfl rfl ?_;intro E hE
 refine ww ?_
 refine qCr (eqNil_ok hT (fun _=>rfl) rfl rfl rfl) rfl ?_
 rintro v h' ⟨rfl,b,rfl,hb⟩
 refine ww ?_
 refine qAa rfl (fun h1=>?_) (fun h1=>?_)
 ·obtain rfl:=hb h1
  refine ww ?_
  exact qAh rfl AV.le.nils rfl rfl rfl rfl ⟨rfl,rfl⟩
 ·refine ww ?_
  refine qAd (qCh (es:=[]) hT rfl rfl rfl (.inl rfl) rfl (by show (([]:List (List Dat)).length+es.length)*(1+1)≤140737488355328;simp;omega)) rfl ?_
  refine ww ?_
  exact qAh rfl (.refl _) rfl rfl rfl rfl ⟨rfl,rfl⟩
theorem qUs (es:List (List Dat)) (hl:es.length≤1000000):Spec Tryz.prog 83 [.d (.sl 1 es)] [.room] (fun r h'=>r=.sl 1 es (.right 0)∧h'=[.right 1 es.length]):=by
 refine qAb hT Tryz.func83 rfl rfl rfl rfl ?_;intro E hE
 refine ww ?_
 refine qCr (eqNil_ok hT (fun _=>rfl) rfl rfl rfl) rfl ?_
 rintro v h' ⟨rfl,b,rfl,hb⟩
 refine ww ?_
 refine qAa rfl (fun h1=>?_) (fun h1=>?_)
 ·obtain rfl:=hb h1
  refine qAk (qAg ?_)
  refine wws ?_
  refine qAz 2 1 0 (es:=[]) (.inr ⟨rfl,rfl⟩) rfl ?_
  refine ww ?_
  exact wwr
 ·refine ww ?_
  refine qAd (qCl (i:=0) hT rfl rfl rfl (.inl rfl) (by simp) rfl rfl (by show es.length*(8+1)≤140737488355328;omega)) rfl ?_
  refine ww ?_
  exact wwr
theorem qUu (es:List (List Dat)) (hl:es.length≤1000000):Spec Tryz.prog 83 [.d (.sl 1 es)] [] (fun r h'=>r=.d (.sl 1 es)∧h'=[]):=by
 refine qAb hT Tryz.func83 rfl rfl rfl rfl ?_;intro E hE
 refine ww ?_
 refine qCr (eqNil_ok hT (fun _=>rfl) rfl rfl rfl) rfl ?_
 rintro v h' ⟨rfl,b,rfl,hb⟩
 refine ww ?_
 refine qAa rfl (fun h1=>?_) (fun h1=>?_)
 ·obtain rfl:=hb h1
  refine ww ?_
  exact qAh rfl AV.le.nils rfl rfl rfl rfl ⟨rfl,rfl⟩
 ·refine ww ?_
  refine qAd (qCh (es:=[]) hT rfl rfl rfl (.inl rfl) rfl (by show (([]:List (List Dat)).length+es.length)*(8+1)≤140737488355328;simp;omega)) rfl ?_
  refine ww ?_
  exact qAh rfl (.refl _) rfl rfl rfl rfl ⟨rfl,rfl⟩
theorem qMc (es:List (List Dat)) (hl:es.length≤1000000):Spec Tryz.prog 82 [.d (.sl 11 es)] [.room] (fun r h'=>r=.sl 11 es (.right 0)∧h'=[.right 11 es.length]):=by
 refine qAb hT Tryz.func82 rfl rfl rfl rfl ?_;intro E hE
 refine ww ?_
 refine qCr (eqNil_ok hT (fun _=>rfl) rfl rfl rfl) rfl ?_
 rintro v h' ⟨rfl,b,rfl,hb⟩
 refine ww ?_
 refine qAa rfl (fun h1=>?_) (fun h1=>?_)
 ·obtain rfl:=hb h1
  refine qAk (qAg ?_)
  refine wws ?_
  refine qAz 2 11 0 (es:=[]) (.inr ⟨rfl,rfl⟩) rfl ?_
  refine ww ?_
  exact wwr
 ·refine ww ?_
  refine qAd (qCl (i:=0) hT rfl rfl rfl (.inl rfl) (by simp) rfl rfl (by show es.length*(96+1)≤140737488355328;omega)) rfl ?_
  refine ww ?_
  exact wwr
theorem qUv (es:List (List Dat)) (hl:es.length≤1000000):Spec Tryz.prog 84 [.d (.sl 5 es)] [] (fun r h'=>r=.d (.sl 5 es)∧h'=[]):=by
 refine qAb hT Tryz.func84 rfl rfl rfl rfl ?_;intro E hE
 refine ww ?_
 refine qCr (eqNil_ok hT (fun _=>rfl) rfl rfl rfl) rfl ?_
 rintro v h' ⟨rfl,b,rfl,hb⟩
 refine ww ?_
 refine qAa rfl (fun h1=>?_) (fun h1=>?_)
 ·obtain rfl:=hb h1
  refine ww ?_
  exact qAh rfl AV.le.nils rfl rfl rfl rfl ⟨rfl,rfl⟩
 ·refine ww ?_
  refine qAd (qCh (es:=[]) hT rfl rfl rfl (.inl rfl) rfl (by show (([]:List (List Dat)).length+es.length)*(56+1)≤140737488355328;simp;omega)) rfl ?_
  refine ww ?_
  exact qAh rfl (.refl _) rfl rfl rfl rfl ⟨rfl,rfl⟩
end Tdoc
namespace Tdoc
open Go Go.Proofs
theorem wI_nat (m:Nat):IntKind.u32.wrap (m:Int)=wI (BitVec.ofNat 32 m):=by
 rw [wrap32];unfold wI;rw [BitVec.toNat_ofNat];omega
theorem encB_rep0 (b:List UInt8) (j:Nat):qAl (b++[128]++List.replicate (j+1) 0)=qAl (b++[128]++List.replicate j 0)++[[.int .u8 0]]:=by
 rw [List.replicate_succ',← List.append_assoc,encB_append];rfl
theorem vGw (b:List UInt8) (hb:b.length≤900000):Spec Tryz.prog 351 [.d (.sl 1 (qAl b))] [] (fun r h'=>r=.d (.sl 1 (qAl (qVx b)))∧h'=[]):=by
 have hbl:=encB_length b
 have hz:=padZ_lt b.length
 have hcl:=qUt (qAl b) (by omega)
 have hp:=padW_eq b
 rw [len8 _ (by omega)] at hp
 refine qAb hT Tryz.func351 rfl rfl rfl rfl ?_;intro E hE
 refine qAj ?_
 refine ww ?_
 refine qAd (vDi (v:=.sl 1 (qAl b) (.right 0)) (H':=[.right 1 (qAl b).length]) rfl rfl hcl [0] (by decide) rfl rfl rfl rfl rfl rfl rfl) rfl ?_
 refine ww ?_
 refine qAd (qAi (i:=0) hT rfl rfl rfl rfl rfl rfl (by show ((qAl b).length+1)*(1+1)≤_;omega)) rfl ?_
 refine ww ?_
 refine qAp (ι:=Nat) (fun j=>[(0,.d (.sl 1 (qAl b))),(3,.sl 1 (qAl (b++[128]++List.replicate j 0)) (.right 0))]) (fun j=>[.right 1 (qAl (b++[128]++List.replicate j 0)).length]) (fun j=>j≤qPn b.length) (fun j=>qPn b.length-j) 0 (Nat.zero_le _)
  ⟨.refl _,.slt (by rw [List.replicate_zero,List.append_nil,encB_append];rfl),trivial⟩ ⟨⟨rfl,by simp [encB_length]⟩,trivial⟩ ?_
 intro j hj
 have hlj:(qAl (b++[128]++List.replicate j 0)).length=b.length+1+j:=by rw [encB_length];simp;omega
 have hif:=padZ_iff hj
 refine ww ?_
 refine qAa rfl (fun h1=>?_) (fun h1=>?_)
 ·have h1':j < qPn b.length:=by
   rw [hlj] at h1
   have:(b.length+1+j) % 64≠56:=fun hc=>by
    have e:Int.tmod ((b.length+1+j:Nat):Int) 64=(((b.length+1+j) % 64:Nat):Int):=rfl
    rw [e,hc] at h1;exact absurd h1 (by decide)
   have:=fun hc=>this (hif.2 hc)
   omega
  have hs:=encB_rep0 b j
  refine ww ?_
  refine qAd (qAi (i:=0) hT rfl rfl rfl rfl rfl rfl (by show ((qAl (b++[128]++List.replicate j 0)).length+1)*(1+1)≤_;omega)) rfl ?_
  refine ww ?_
  exact ⟨j+1,h1',by omega,⟨.refl _,.slt hs.symm,trivial⟩,⟨⟨rfl,by rw [hs]⟩,trivial⟩⟩
 ·have h1':j=qPn b.length:=by
   rw [hlj] at h1
   refine hif.1 ?_
   have e:Int.tmod ((b.length+1+j:Nat):Int) 64=(((b.length+1+j) % 64:Nat):Int):=rfl
   rw [e] at h1
   simp at h1
   omega
  subst h1'
  refine wwe ?_
  refine qAk (qAg ?_)
  refine wws ?_
  refine qAo (l:=[(3,.sl 1 (qAl (b++[128]++List.replicate (qPn b.length) 0)) (.right 0)),(4,.d (.int .u64 ((8*b.length:Nat):Int)))]) (h':=[.right 1 (qAl (b++[128]++List.replicate (qPn b.length) 0)).length]) ⟨.refl _,.int ?_,trivial⟩ (HLe.refl _) ?_
  ·show IntKind.u64.wrap (8*IntKind.u64.wrap ((qAl b).length:Int))=_
   rw [hbl,wrapu64 (n:=(b.length:Int)) (by omega),wrapu64 (by omega)];omega
  have h5:IntKind.u32.wrap (Int.fdiv ((8*b.length:Nat):Int) (2 ^ (min (32:Int).toNat IntKind.u64.bits)))=wI (BitVec.ofNat 32 (8*b.length / 4294967296)):=by
   rw [← wI_nat];exact congrArg IntKind.u32.wrap (qDq (8*b.length) 32)
  have h6:IntKind.u32.wrap ((8*b.length:Nat):Int)=wI (BitVec.ofNat 32 (8*b.length)):=wI_nat _
  refine ww ?_
  refine wwc (bytesOf_spec (BitVec.ofNat 32 (8*b.length / 4294967296))) ?_
  refine ww ?_
  refine qAd (qAi (i:=0) hT rfl rfl rfl rfl rfl rfl (by show ((qAl (b++[128]++List.replicate (qPn b.length) 0)).length+4)*(1+1)≤_;omega)) rfl ?_
  refine ww ?_
  refine wwc (bytesOf_spec (BitVec.ofNat 32 (8*b.length))) ?_
  refine ww ?_
  refine qAd (qAi (i:=0) hT rfl rfl rfl rfl rfl rfl (by rw [List.length_append];show ((qAl (b++[128]++List.replicate (qPn b.length) 0)).length+4+4)*(1+1)≤_;omega)) rfl ?_
  refine ww ?_
  refine rq ⟨rfl,rfl⟩ rfl (AV.le.dat' ?_)
  rw [hp,← List.append_assoc];simp only [encB_append]
end Tdoc
namespace Tdoc
open Go Go.Proofs
theorem loadI_head {T:Tr} {t:Nat} {ti:TI} {cs:List Dat} {d:Dat} (hf:T.find t=some ti) (ha:ti.agg=false) (hd:cs[0]?=some d):vCi T t cs=some (.d d):=by
 unfold vCi;rw [hf];simp only;rw [ha];simp only;rw [hd]
def kD:List Dat:=kW.map fun x=>.int .u32 (wI x)
set_option maxRecDepth 100000 in
theorem kD_tab:qGr 5=some kD:=by kernel_rfl
set_option maxRecDepth 100000 in
theorem kD_tab4:qGr 4=some kD:=by kernel_rfl
theorem kD_at {n:Nat} (h:n < 64):(kD.drop n)[0]?=some (.int .u32 (wI (kW.getD n 0))):=by
 have hl:kW.length=64:=rfl
 unfold kD
 rw [← List.map_drop,List.getElem?_map,List.getElem?_drop,Nat.add_zero,List.getElem?_eq_getElem (by omega)]
 simp [show n < kW.length by omega]
def vC (v:Vw):List AV:=[uV v.a,uV v.b,uV v.c,uV v.d,uV v.e,uV v.f,uV v.g,uV v.h]
theorem encW_length (v:Vw):(qEz v).length=8:=rfl
theorem encW_at (v:Vw) {i:Nat} (h:i < 8):(qEz v)[i]?=some [.int .u32 (wI ((vwL v).getD i 0))]:=by
 have hl:(vwL v).length=8:=rfl
 unfold qEz
 rw [List.getElem?_map,List.getElem?_eq_getElem (by omega)]
 simp [show i < (vwL v).length by omega]
theorem vC_at (v:Vw) {i:Nat} (h:i < 8):(vC v)[i]?=some (uV ((vwL v).getD i 0)):=by
 have hl:(vwL v).length=8:=rfl
 have:vC v=(vwL v).map uV:=rfl
 rw [this,List.getElem?_map,List.getElem?_eq_getElem (by omega)]
 simp [show i < (vwL v).length by omega]
def vDr (v r:Vw):Vw:=⟨v.a+r.a,v.b+r.b,v.c+r.c,v.d+r.d,v.e+r.e,v.f+r.f,v.g+r.g,v.h+r.h⟩
theorem addV_at (v r:Vw) {i:Nat} (h:i < 8):(vwL (vDr v r)).getD i 0=(vwL v).getD i 0+(vwL r).getD i 0:=by
 rcases (by omega:i=0∨i=1∨i=2∨i=3∨i=4∨i=5∨i=6∨i=7) with rfl | rfl | rfl | rfl | rfl | rfl | rfl | rfl <;> rfl
def vBc (v r:Vw) (i:Nat):List AV:=((vwL (vDr v r)).take i).map uV++List.replicate (8-i) (uV 0)
theorem sumC_set (v r:Vw) {i:Nat} (h:i < 8):(vBc v r i).set i (uV ((vwL v).getD i 0+(vwL r).getD i 0))=vBc v r (i+1):=by
 rw [← addV_at v r h]
 have hl:(vwL (vDr v r)).length=8:=rfl
 unfold vBc
 rw [List.take_add_one,List.map_append,List.set_append_right _ _ (by simp [hl];omega),show 8-i=(8-(i+1))+1 by omega,List.replicate_succ,List.append_assoc]
 simp [hl,show min i 8=i by omega,h]
theorem sumC_length (v r:Vw) {i:Nat} (h:i≤8):(vBc v r i).length=8:=by
 have hl:(vwL (vDr v r)).length=8:=rfl
 unfold vBc;simp [hl];omega
theorem sumC_all (v r:Vw):RowDat (vBc v r 8) 0 1 (qEz (vDr v r)):=by
 refine ⟨fun e he=>?_,fun i e j d he hd=>?_⟩
 ·simp only [qEz,List.mem_map] at he
  obtain ⟨b,_,rfl⟩:=he;rfl
 ·have hi:i < 8:=by have:=(List.getElem?_eq_some_iff.1 he).1;simpa [encW_length] using this
  rw [encW_at _ hi] at he
  cases he
  cases j with
  | zero =>
   simp at hd;subst hd
   have:vBc v r 8=vC (vDr v r):=rfl
   exact ⟨uV ((vwL (vDr v r)).getD i 0),by rw [this,Nat.zero_add,Nat.mul_one,Nat.add_zero];exact vC_at _ hi,rfl⟩
  | succ j=>simp at hd
theorem compW_eq (v:Vw) (b:List UInt8):qTu v b=vDr v (qGe v (qJs b 64) 64):=rfl
theorem vDa (b:List UInt8) (t:Nat):qSl (b.drop t) 0=qSl b t:=by
 unfold qSl
 simp only [List.getD_eq_getElem?_getD,List.getElem?_drop,Nat.zero_add,Nat.add_zero]
theorem rots2 (x:BitVec 32) (i j:Nat):qVm x [i,j]=qKl x i ^^^ qKl x j:=by
 show (0#32 ^^^ qKl x i) ^^^ qKl x j=_
 rw [BitVec.zero_xor]
theorem rots3 (x:BitVec 32) (i j k:Nat):qVm x [i,j,k]=qKl x i ^^^ qKl x j ^^^ qKl x k:=by
 show ((0#32 ^^^ qKl x i) ^^^ qKl x j) ^^^ qKl x k=_
 rw [BitVec.zero_xor]
theorem qSy (x:BitVec 32) (i j:Nat) (hi:1≤i∧i≤31) (hj:1≤j∧j≤31):Spec Tryz.prog 389 [uV x,.d (.sl 1 [[.int .i64 (i:Int)],[.int .i64 (j:Int)]])] [] (fun r h'=>r=uV (qKl x i ^^^ qKl x j)∧h'=[]):=by
 rw [← rots2]
 exact qXt x [i,j] (by simp) (fun n hn=>by simp at hn;rcases hn with rfl | rfl <;> assumption)
theorem qSx (x:BitVec 32) (i j k:Nat) (hi:1≤i∧i≤31) (hj:1≤j∧j≤31) (hk:1≤k∧k≤31):Spec Tryz.prog 389 [uV x,.d (.sl 1 [[.int .i64 (i:Int)],[.int .i64 (j:Int)],[.int .i64 (k:Int)]])] [] (fun r h'=>r=uV (qKl x i ^^^ qKl x j ^^^ qKl x k)∧h'=[]):=by
 rw [← rots3]
 exact qXt x [i,j,k] (by simp) (fun n hn=>by simp at hn;rcases hn with rfl | rfl | rfl <;> assumption)
end Tdoc
