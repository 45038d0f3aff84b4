/- Part 7 of the proof: the texts XA XL XM XN XO XP J7 J8 J9 JD JE JF JG JH JI KS HM HN HO HP P1 P2 P3 P4 P5 P6 P7 XB XC XD XE XF XG XH XI XJ XQ KO CC CD. -/
import Derived.Test.YtijghnaidinliaaGreatDoorCR6
import Derived.Test.YtijghnaidinliaaGreatDoorCR5
set_option maxHeartbeats 8000000
set_option maxRecDepth 100000
set_option linter.unusedVariables false
set_option linter.unusedSimpArgs false
namespace Tdoc
open Go Go.Proofs
def qSm (v:List UInt8):Int×Int:=if 7 < v.length then (0,2) else (((nbN v:Nat):Int),0)
theorem qDb (v:List UInt8) (hv:v.length≤1000000):Spec Tryz.prog 112 [.d (.sl 1 (qAe v))] [] (fun r h'=>r=.tup [.d (.int .i64 (qSm v).1),.d (.int .i64 (qSm v).2)]∧h'=[]):=by
 have hl:=encB_length v
 unfold qSm
 by_cases h7:7 < v.length
 ·rw [if_pos h7]
  refine qAa hT Tryz.func112 rfl rfl rfl rfl ?_;intro E hE
  refine ww ?_
  refine qAb rfl (fun c1=>?_) (fun c1=>?_)
  ·refine ww ?_
   exact wwr
  ·exfalso;rw [hl] at c1;simp at c1;omega
 rw [if_neg h7]
 refine qAa hT Tryz.func112 rfl rfl rfl rfl ?_;intro E hE
 refine ww ?_
 refine qAb rfl (fun c1=>?_) (fun c1=>?_)
 ·exfalso;rw [hl] at c1;simp at c1;omega
 refine ww ?_
 refine qAt (ι:=Nat) (fun i=>[(0,.d (.sl 1 (qAe v))),(4,.I ((nbN (v.take i):Nat):Int)),(10,.d (.sl 1 (qAe v))),(11,.I ((qAe v).length:Int)),(12,.I (i:Int))]) (fun _=>[]) (fun i=>i≤v.length) (fun i=>v.length-i) 0 (by omega) yf (HLe.refl _) ?_
 intro i hi
 have hwr:IntKind.i64.wrap ((i:Int)+1)=((i+1:Nat):Int):=by rw [qAf (by omega)];simp
 refine ww ?_
 refine qAb rfl (fun c2=>?_) (fun c2=>?_)
 ·have c2':i < v.length:=by rw [hl] at c2;simpa using c2
  have hel:(qAe v)[((i:Int)).toNat]?=some [.int .u8 (v[i].toNat:Int)]:=by simp [qAe,c2']
  have htk:nbN (v.take (i+1))=256*nbN (v.take i)+v[i].toNat:=by rw [List.take_succ_eq_append_getElem c2',nbN_snoc]
  have hlt:nbN (v.take i) < 256 ^ 6:=Nat.lt_of_lt_of_le (nbN_lt _) (Nat.pow_le_pow_right (by omega) (by rw [List.length_take];omega))
  have h6:(256:Nat) ^ 6=281474976710656:=by decide
  rw [h6] at hlt
  have hc:=UInt8.toNat_lt v[i]
  generalize v[i]=c at hel htk hc
  generalize nbN (v.take i)=n at htk hlt
  have hb8:IntKind.i64.wrap (c.toNat:Int)=(c.toNat:Int):=qAf (by omega)
  have hs8:IntKind.i64.wrap ((n:Int)*2 ^ (min (Int.toNat 8) IntKind.i64.bits))=((n*2 ^ 8:Nat):Int):=by
   rw [show min (Int.toNat 8) IntKind.i64.bits=8 from rfl,qAf (by omega)];omega
  have hw1:IntKind.i64.wrap ((BitVec.ofInt IntKind.i64.bits (IntKind.i64.wrap ((n:Int)*2 ^ (min (Int.toNat 8) IntKind.i64.bits))) ||| BitVec.ofInt IntKind.i64.bits (IntKind.i64.wrap (c.toNat:Int))).toNat:Int)=((nbN (v.take (i+1)):Nat):Int):=by
   rw [hb8,hs8,qVn (by omega) (by omega),qVm n c.toNat 8 (by omega),htk];congr 1;omega
  refine ww ?_
  refine wwi hel ?_
  refine ww ?_
  exact ⟨i+1,by omega,by omega,⟨.refl _,.int hw1,.refl _,.refl _,.int hwr,trivial⟩,HLe.refl _⟩
 ·have c2':i=v.length:=by rw [hl] at c2;simp at c2;omega
  subst c2'
  rw [List.take_length]
  refine ww ?_
  exact wwr
theorem qRo (v:List UInt8) (hv:v.length≤1000000):Spec Tryz.prog 70 [.d (.sl 1 (qAe v))] [] (fun r h'=>r=.tup [.d (.int .i64 (qOo v).1),.d (.int .i64 (qOo v).2)]∧h'=[]):=by
 have hl:=encB_length v
 unfold qOo
 by_cases h4:v.length=4
 case neg =>
  rw [if_pos h4]
  refine qAa hT Tryz.func70 rfl rfl rfl rfl ?_;intro E hE
  refine ww ?_
  refine qAb rfl (fun c1=>?_) (fun c1=>?_)
  ·refine ww ?_
   exact wwr
  ·exfalso;rw [hl] at c1;simp at c1;omega
 rw [if_neg (by omega)]
 have hN:=qDb v (by omega)
 unfold qSm at hN
 rw [if_neg (by omega)] at hN
 have hEl:=qDc ((nbN v:Nat):Int)
 generalize qCp ((nbN v:Nat):Int)=el at hEl
 refine qAa hT Tryz.func70 rfl rfl rfl rfl ?_;intro E hE
 refine ww ?_
 refine qAb rfl (fun c1=>?_) (fun c1=>?_)
 ·exfalso;rw [hl,h4] at c1;simp at c1
 refine ww ?_
 refine wwc hN ?_
 refine ww ?_
 refine wwc hEl ?_
 refine ww ?_
 refine qAb rfl (fun c2=>?_) (fun c2=>?_)
 ·have hn:el=false:=by simpa using c2
  rw [if_pos hn]
  refine ww ?_
  exact wwr
 have hn:¬ el=false:=by simpa using c2
 rw [if_neg hn]
 refine ww ?_
 exact wwr
theorem qOn (p:Int):Spec Tryz.prog 119 [.I p] [] (fun r h'=>r=.d (.bool (decide (p≥2)&&decide (p≤6)))∧h'=[]):=by
 refine qAa hT Tryz.func119 rfl rfl rfl rfl ?_;intro E hE
 refine ww ?_
 exact wwr
theorem qMl (p:Int):Spec Tryz.prog 121 [.I p] [] (fun r h'=>r=.d (.bool (p == 2||p == 3))∧h'=[]):=by
 refine qAa hT Tryz.func121 rfl rfl rfl rfl ?_;intro E hE
 refine ww ?_
 exact wwr
theorem qKt (b:Bool) (n:Int):Spec Tryz.prog 120 [.d (.bool b),.I n] [] (fun r h'=>r=.I (if b=true then n else 0)∧h'=[]):=by
 refine qAa hT Tryz.func120 rfl rfl rfl rfl ?_;intro E hE
 refine ww ?_
 refine qAb rfl (fun c1=>?_) (fun c1=>?_)
 ·rw [if_pos c1]
  refine ww ?_
  exact wwr
 ·rw [if_neg (by rw [c1];simp)]
  refine ww ?_
  exact wwr
theorem checkI_spec (x:Inf):Spec Tryz.prog 89 [.agg (qQs x)] [] (fun r h'=>r=.I (infE x)∧h'=[]):=by
 obtain ⟨p,v,a,k,d⟩:=x
 have hK:=qOn p
 have hM:=qMl p
 have hm1:=qKt (p == 2||p == 3) 31
 have hm2:=qKt (p == 4) 255
 have hE2:=qDc k
 have e1:(if (p == 2||p == 3)=true then (31:Int) else 0)=qWg p:=by unfold qWg;simp
 have e2:(if (p == 4)=true then (255:Int) else 0)=qWj p:=by unfold qWj;simp
 rw [e1] at hm1
 rw [e2] at hm2
 unfold infE qQs
 simp only
 generalize qCp k=el at hE2
 generalize qWg p=pm at hm1
 generalize qWj p=km at hm2
 refine qAa hT Tryz.func89 rfl rfl rfl rfl ?_;intro E hE
 refine qAj ?_
 refine wwe ?_
 refine qAl (qAg ?_)
 refine qAd (boxAt_ok (i0:=0) rfl rfl rfl) rfl ?_
 refine ww ?_
 refine wwc hK ?_
 refine ww ?_
 refine qAb rfl (fun c1=>?_) (fun c1=>?_)
 ·have c1':p < 2∨p > 6:=by simp at c1;omega
  rw [if_pos c1']
  refine ww ?_
  exact wwr
 have c1':¬ (p < 2∨p > 6):=by simp at c1;omega
 rw [if_neg c1']
 refine ww ?_
 refine qAb rfl (fun c2=>?_) (fun c2=>?_)
 ·have c2':v < 1∨v > 255∨a < 0∨a > pm∨d < 0∨d > km:=by simp only [Bool.or_eq_true,decide_eq_true_eq] at c2;omega
  rw [if_pos c2']
  refine ww ?_
  exact wwr
 simp only [Bool.or_eq_false_iff,decide_eq_false_iff_not] at c2
 refine ww ?_
 refine wwgc hM ?_
 refine ww ?_
 refine wwgc hm1 ?_
 refine ww ?_
 refine qAb rfl (fun c3=>?_) (fun c3=>?_)
 ·have c3':v < 1∨v > 255∨a < 0∨a > pm∨d < 0∨d > km:=by simp only [Bool.or_eq_true,decide_eq_true_eq] at c3;omega
  rw [if_pos c3']
  refine ww ?_
  exact wwr
 simp only [Bool.or_eq_false_iff,decide_eq_false_iff_not] at c3
 refine ww ?_
 refine wwgc hm2 ?_
 refine ww ?_
 refine qAb rfl (fun c4=>?_) (fun c4=>?_)
 ·have c4':v < 1∨v > 255∨a < 0∨a > pm∨d < 0∨d > km:=by simp only [Bool.or_eq_true,decide_eq_true_eq] at c4;omega
  rw [if_pos c4']
  refine ww ?_
  exact wwr
 simp only [Bool.or_eq_false_iff,decide_eq_false_iff_not] at c4
 rw [if_neg (by omega)]
 refine ww ?_
 refine wwgc hE2 ?_
 refine ww ?_
 have hc:((p == 4&&!el)||(!(p == 4)&&k != 0))=decide ((p=4∧el=false)∨(p≠4∧k≠0)):=by
  by_cases h4:p=4 <;> cases el <;> by_cases hk:k=0 <;> simp [h4,hk]
 refine qAb rfl (fun c5=>?_) (fun c5=>?_)
 ·have c5':(p=4∧el=false)∨(p≠4∧k≠0):=by rw [hc] at c5;simpa using c5
  rw [if_pos c5']
  refine ww ?_
  exact wwr
 have c5':¬ ((p=4∧el=false)∨(p≠4∧k≠0)):=by rw [hc] at c5;exact of_decide_eq_false c5
 rw [if_neg c5']
 refine wwe ?_
 refine ww ?_
 exact wwr
def qQw (a b:Int):Int:=if a < b then -1 else if a > b then 1 else 0
def orI (a b:Int):Int:=if a≠0 then a else b
theorem orI_infO (p x:Inf):decide (orI (qQw p.proto x.proto) (qQw p.kid x.kid)≥0)=qVg p x:=by
 unfold orI qQw qVg
 rw [Bool.eq_iff_iff]
 simp only [decide_eq_true_eq]
 split <;> split <;> (try split) <;> (try split) <;> (try split) <;> omega
theorem isNaN_spec (a:Int):Spec Tryz.prog 122 [.I a] [] (fun r h'=>r=.d (.bool false)∧h'=[]):=by
 have h:(a != a)=false:=by simp
 refine qAa hT Tryz.func122 rfl rfl rfl rfl ?_;intro E hE
 refine ww ?_
 rw [h]
 exact wwr
theorem qGl (a b:Int):Spec Tryz.prog 91 [.I a,.I b] [] (fun r h'=>r=.I (qQw a b)∧h'=[]):=by
 have h1:=isNaN_spec a
 have h2:=isNaN_spec b
 unfold qQw
 refine qAa hT Tryz.func91 rfl rfl rfl rfl ?_;intro E hE
 refine ww ?_
 refine wwc h1 ?_
 refine ww ?_
 refine wwc h2 ?_
 refine ww ?_
 refine qAb rfl (fun c1=>?_) (fun c1=>?_)
 ·exact absurd c1 (by simp)
 refine ww ?_
 refine qAb rfl (fun c2=>?_) (fun c2=>?_)
 ·exact absurd c2 (by simp)
 refine ww ?_
 refine qAb rfl (fun c3=>?_) (fun c3=>?_)
 ·rw [if_pos (by simpa using c3)]
  refine ww ?_
  exact wwr
 rw [if_neg (by simpa using c3)]
 refine ww ?_
 refine qAb rfl (fun c4=>?_) (fun c4=>?_)
 ·rw [if_pos (by simpa using c4)]
  refine ww ?_
  exact wwr
 rw [if_neg (by simpa using c4)]
 refine ww ?_
 exact wwr
theorem qUv (a b:Int):Spec Tryz.prog 90 [.d (.sl 1 (qLy [a,b]))] [] (fun r h'=>r=.I (orI a b)∧h'=[]):=by
 unfold orI
 generalize hfin:(if a≠0 then a else b)=fin
 have hlen:(qLy [a,b]).length=2:=rfl
 refine qAa hT Tryz.func90 rfl rfl rfl rfl ?_;intro E hE
 refine ww ?_
 refine qAt (ι:=Nat) (fun i=>[(3,.I 0),(6,.d (.sl 1 (qLy [a,b]))),(7,.I ((qLy [a,b]).length:Int)),(8,.I (i:Int))]) (fun _=>[]) (fun i=>i≤2∧(1≤i→a=0)∧(2≤i→b=0)) (fun i=>2-i) 0 (by omega) yf (HLe.refl _) ?_
 rintro i ⟨hi,ha,hb⟩
 have hwr:IntKind.i64.wrap ((i:Int)+1)=((i+1:Nat):Int):=by rw [qAf (by omega)];omega
 refine ww ?_
 refine qAb rfl (fun c1=>?_) (fun c1=>?_)
 ·have hlt:i < 2:=by rw [hlen] at c1;simp at c1;omega
  have hel:=encI_at (l:=[a,b]) (i:=i) hlt
  have hv:i=0∧([a,b]:List Int)[i]=a∨i=1∧([a,b]:List Int)[i]=b:=by
   match i,hlt with
   | 0,_=>exact .inl ⟨rfl,rfl⟩
   | 1,_=>exact .inr ⟨rfl,rfl⟩
  generalize ([a,b]:List Int)[i]=c at hel hv
  refine ww ?_
  refine wwi hel ?_
  refine ww ?_
  refine qAb rfl (fun c2=>?_) (fun c2=>?_)
  ·have hc:c=fin:=by
    have:c≠0:=by simpa using c2
    rw [← hfin]
    rcases hv with ⟨h0,h1⟩ | ⟨h0,h1⟩
    ·rw [if_pos (by omega)];exact h1
    ·rw [if_neg (by have:=ha (by omega);omega)];exact h1
   subst hc
   refine ww ?_
   exact wwr
  have hc:c=0:=by simpa using c2
  refine ww ?_
  exact ⟨i+1,⟨by omega,by omega,by omega⟩,by omega,⟨.refl _,.refl _,.refl _,.int hwr,trivial⟩,HLe.refl _⟩
 ·have hge:i=2:=by rw [hlen] at c1;simp at c1;omega
  have h0:fin=0:=by rw [← hfin];have:=ha (by omega);have:=hb (by omega);split <;> omega
  subst h0
  refine ww ?_
  exact wwr
def qMi (l:List Inf) (i:Nat):Option Inf:=if i=0 then none else l[i-1]?
theorem qLj (l:List Inf) (hl:l.length≤9223372036854775807):Spec Tryz.prog 47 [.d (.sl 5 (qEr l))] [] (fun r h'=>r=.I (validI l)∧h'=[]):=by
 have hll:=encFs_length l
 unfold validI
 by_cases h1:l.length > 16
 case pos =>
  rw [if_pos h1]
  refine qAa hT Tryz.func47 rfl rfl rfl rfl ?_;intro E hE
  refine ww ?_
  refine qAb rfl (fun c1=>?_) (fun c1=>?_)
  ·refine ww ?_
   exact wwr
  ·exfalso
   rw [hll] at c1
   simp at c1
   omega
 rw [if_neg h1]
 generalize hfin:qTt none l=fin
 refine qAa hT Tryz.func47 rfl rfl rfl rfl ?_;intro E hE
 refine ww ?_
 refine qAb rfl (fun c1=>?_) (fun c1=>?_)
 ·exfalso
  rw [hll] at c1
  simp at c1
  omega
 refine ww ?_
 refine qBr (ι:=Nat) (fun i=>[(0,.d (.sl 5 (qEr l))),(9,.d (.sl 5 (qEr l))),(10,.I ((qEr l).length:Int)),(11,.I (i:Int))]) (fun _=>[])
  (fun i=>i≤l.length∧qTt (qMi l i) (l.drop i)=fin) (fun i=>l.length-i) 0 ⟨by omega,by simpa [qMi] using hfin⟩ yf (HLe.refl _) ?_
 rintro i ⟨hi,hg⟩
 have hwr:IntKind.i64.wrap ((i:Int)+1)=((i+1:Nat):Int):=by rw [qAf (by omega)];simp
 refine ww ?_
 refine qAb rfl (fun c2=>?_) (fun c2=>?_)
 ·have c2':i < l.length:=by rw [hll] at c2;simpa using c2
  have hel:=encFs_at c2'
  have hdr:l.drop i=l[i]::l.drop (i+1):=List.drop_eq_getElem_cons c2'
  have hpv:qMi l (i+1)=some l[i]:=by unfold qMi;simp [c2']
  rw [hdr,infL_cons] at hg
  have hC:=checkI_spec l[i]
  generalize l[i]=x at hel hC hpv hg
  generalize he:infE x=ve at hC hg
  obtain ⟨x1,x2,x3,x4,x5⟩:=x
  unfold qQs at hC
  unfold qWa at hel
  simp only at hC hel
  by_cases h0:i=0
  ·subst h0
   have hn:decide (((0:Nat):Int) > 0)=false:=rfl
   refine ww ?_
   refine wwi hel ?_
   refine ww ?_
   refine wwc hC ?_
   refine ww ?_
   refine qAb rfl (fun c3=>?_) (fun c3=>?_)
   ·rw [if_pos (by simpa using c3)] at hg
    subst hg
    refine ww ?_
    exact wwr
   rw [if_neg (by simpa using c3)] at hg
   refine wwk hn ?_
   refine qAb rfl (fun c4=>?_) (fun c4=>?_)
   ·exact absurd c4 (by simp)
   simp only [qMi,if_true] at hg
   rw [if_neg (by simp)] at hg
   refine ww ?_
   exact ⟨0+1,[_],⟨c2',by rw [hpv];exact hg⟩,by omega,⟨.refl _,.refl _,.refl _,.int hwr,trivial⟩,HLe.refl _,Env.below_mono hE (by simp),rfl,rfl⟩
  ·have hlt:i-1 < l.length:=by omega
   have help:(qEr l)[(IntKind.i64.wrap ((i:Int)-1)).toNat]?=some (qWa l[i-1]):=by
    rw [qAf (by omega),show (i:Int)-1=((i-1:Nat):Int) by omega];exact encFs_at hlt
   have hp:qMi l i=some l[i-1]:=by unfold qMi;rw [if_neg h0];simp [hlt]
   have hn:decide ((i:Int) > 0)=true:=by simp;omega
   have hwi:IntKind.i64.wrap ((i:Int)-1)=(i:Int)-1:=qAf (by omega)
   rw [hp] at hg
   have hg:(if ve≠0 then ve else if qVg l[i-1] ⟨x1,x2,x3,x4,x5⟩=true then 17 else qTt (some ⟨x1,x2,x3,x4,x5⟩) (l.drop (i+1)))=fin:=hg
   have hio:=orI_infO l[i-1] ⟨x1,x2,x3,x4,x5⟩
   generalize qVg l[i-1] ⟨x1,x2,x3,x4,x5⟩=io at hg hio
   generalize l[i-1]=p at help hio
   obtain ⟨p1,p2,p3,p4,p5⟩:=p
   simp only at hio
   unfold qWa at help
   simp only at help
   have hc1:=qGl p1 x1
   have hc2:=qGl p5 x5
   have hor:=qUv (qQw p1 x1) (qQw p5 x5)
   generalize orI (qQw p1 x1) (qQw p5 x5)=ov at hor hio
   subst hio
   refine ww ?_
   refine wwi hel ?_
   refine ww ?_
   refine wwc hC ?_
   refine ww ?_
   refine qAb rfl (fun c3=>?_) (fun c3=>?_)
   ·rw [if_pos (by simpa using c3)] at hg
    subst hg
    refine ww ?_
    exact wwr
   rw [if_neg (by simpa using c3)] at hg
   refine ww ?_
   refine wwgi help ?_
   refine ww ?_
   refine wwgc hc1 ?_
   refine ww ?_
   refine wwgi help ?_
   refine ww ?_
   refine wwgc hc2 ?_
   refine ww ?_
   refine qFw rfl rfl rfl rfl (fun hg=>⟨(sg (C:=True) hg).1,qJs (args:=[.sl 1 [[Dat.int .i64 (qQw p1 x1)],[Dat.int .i64 (qQw p5 x5)]] .full]) rfl rfl hor rfl (by exact ⟨AV.le.dat,trivial⟩) rfl rfl⟩) ?_
   refine ww ?_
   refine qAb rfl (fun c4=>?_) (fun c4=>?_)
   ·have hov:decide (ov≥0)=true:=by rw [hn] at c4;simpa using c4
    rw [if_pos hov] at hg
    subst hg
    refine ww ?_
    exact wwr
   have hov:¬ decide (ov≥0)=true:=by rw [hn] at c4;simpa using c4
   rw [if_neg hov] at hg
   refine ww ?_
   exact ⟨i+1,[_],⟨c2',by rw [hpv];exact hg⟩,by omega,⟨.refl _,.refl _,.refl _,.int hwr,trivial⟩,HLe.refl _,Env.below_mono hE (by simp),rfl,rfl⟩
 ·have c2':i=l.length:=by rw [hll] at c2;simp at c2;omega
  subst c2'
  rw [List.drop_length,infL_nil] at hg
  subst hg
  refine ww ?_
  exact wwr
def qEa (n:Nat) (es:List (List Dat)):Nat:=(es.length+(n-1)) / n
def qLc (n:Nat) (es:List (List Dat)) (k:Nat):AV:=.d (.sl 1 ((es.drop (k*n)).take n))
def qDo (n:Nat) (es:List (List Dat)):List AV:=(List.range (qEa n es)).map (qLc n es)
theorem qNr {n:Nat} {es:List (List Dat)} {k:Nat} (hn:1≤n):k < qEa n es↔k*n < es.length:=by
 unfold qEa
 rw [← Nat.succ_le_iff,Nat.le_div_iff_mul_le (by omega),Nat.succ_mul]
 omega
theorem qMq (i j n:Nat) (es:List (List Dat)) (hn:1≤n∧n≤1000000000) (hl:es.length≤1000000000) :
  SeqOk Tryz.prog 259 [.ptr i 0,.ptr j 0] (fun h=>h[i]?=some (.row [.d (.sl 1 es)])∧h[j]?=some (.row [.I (n:Int)])) (qDo n es):=by
 refine qMt Tryz.func259 rfl rfl rfl rfl ?_
 intro E l Hs hok hY
 have hlen:(qDo n es).length=qEa n es:=by simp [qDo]
 rw [hlen]
 refine qGa (qDk (.inl rfl) rfl ?_)
 refine wws ?_
 refine qIf (qRz (ι:=Nat) (fun k=>[(0,.fn (.yield l) [] []),(1,.ptr i 0),(2,.ptr j 0),(4,.I ((k*n:Nat):Int))]) (fun k=>Hs k) (fun k=>k≤qEa n es) (fun k=>qEa n es-k) 0 (Nat.zero_le _) ⟨.refl _,.refl _,.refl _,AV.le.int (by simp),trivial⟩ (HLe.refl _) ?_)
 intro k hk
 obtain ⟨h1,h2⟩:=hok k
 have hlt:=qNr (n:=n) (es:=es) (k:=k) hn.1
 have hkn:k*n≤es.length+n:=by
  by_cases h0:k=0
  ·subst h0;simp
  ·have:(k-1)*n < es.length:=(qNr hn.1).1 (by omega)
   have h3:k*n=(k-1)*n+n:=by rw [← Nat.succ_mul];congr 1;omega
   omega
 refine qGa (qGa (qDk (.inl rfl) rfl ?_))
 refine wws ?_
 refine qAd (qCb hT rfl rfl h1 rfl rfl rfl) rfl ?_
 refine wws ?_
 refine qLx rfl (fun c1=>?_) (fun c1=>?_)
 ·have c1':k*n < es.length:=Int.ofNat_lt.1 (of_decide_eq_true c1)
  have hk':=hlt.2 c1'
  have hy:=hY k (qLc n es k) (by simp [qDo,hk'])
  refine qOa ?_
  refine qGa (qIf (qGa ?_))
  refine qSa (.inl rfl) (fun _=>List.range (Hs k).length) (fun _=>[]) mixed rfl (by kernel_rfl) ?_
  refine qAz (qCb hT rfl rfl h2 rfl rfl rfl) rfl rfl ?_
  refine qAz (qCb hT rfl rfl h1 rfl rfl rfl) rfl rfl ?_
  refine wws ?_
  refine qAz (qAc (qUg (t2:=#[]) rfl rfl rfl)) rfl rfl ?_
  refine wws ?_
  have hmn:(if (((es.drop (k*n)).length:Nat):Int) < (n:Int) then (((es.drop (k*n)).length:Nat):Int) else (n:Int))=((min n (es.length-k*n):Nat):Int):=by
   rw [List.length_drop];split <;> omega
  have htk:(es.drop (k*n)).take (k*n+min n (es.length-k*n)-k*n)=(es.drop (k*n)).take n:=by
   rw [Nat.add_sub_cancel_left]
   rcases Nat.le_total n (es.length-k*n) with h | h
   ·rw [Nat.min_eq_left h]
   ·rw [Nat.min_eq_right h,List.take_of_length_le (by simp),List.take_of_length_le (by simp;omega)]
  refine qNz (l:=[(0,.fn (.yield l) [] []),(1,.ptr i 0),(2,.ptr j 0),(4,.I ((k*n:Nat):Int)),(5,.I ((min n (es.length-k*n):Nat):Int))]) (h':=Hs k) ⟨.refl _,.refl _,.refl _,.refl _,AV.le.int hmn,trivial⟩ (HLe.refl _) ?_
  refine qGa (qIe (.inl rfl) ?_)
  have hadd:IntKind.i64.wrap (((k*n:Nat):Int)+((min n (es.length-k*n):Nat):Int))=((k*n+min n (es.length-k*n):Nat):Int):=by rw [qAf (by omega)];omega
  refine qKb (.inl rfl) (pre:=[_,_,_,_,_,_,_,_,_,_]) _ _ rfl ?_
  refine wws ?_
  refine qAd (qCb hT rfl rfl h1 rfl rfl rfl) rfl ?_
  refine wws ?_
  refine qAd (qAc (qUo (l:=k*n) (r:=k*n+min n (es.length-k*n)) hT rfl rfl rfl rfl (by exact congrArg (fun z=>AV.d (.int .i64 z)) hadd) (by exact congrArg (fun z=>AV.d (.int .i64 z)) hadd) (by omega) rfl)) rfl ?_
  rw [htk]
  refine wws ?_
  refine qUz (qSc rfl rfl rfl hy) rfl ?_
  refine qNw (.inl rfl) _ _ _ rfl ?_
  refine wws ?_
  refine qLx rfl (fun c2=>?_) (fun c2=>?_)
  ·exact absurd c2 (by simp)
  refine qOa ?_
  refine qDk (.inl rfl) rfl ?_
  refine wws ?_
  obtain ⟨h1',h2'⟩:=hok (k+1)
  refine qAd (qCb hT rfl rfl h2' rfl rfl rfl) rfl ?_
  refine wws ?_
  exact ⟨k+1,hk',by omega,⟨.refl _,.refl _,.refl _,AV.le.int (by rw [qAf (by omega),Nat.succ_mul];omega),trivial⟩,HLe.refl _⟩
 ·have c1':¬ k*n < es.length:=fun h=>(of_decide_eq_false c1) (Int.ofNat_lt.2 h)
  have hk':k=qEa n es:=by
   have:¬ k < qEa n es:=fun h=>c1' (hlt.1 h)
   omega
  subst hk'
  exact qTl ⟨.inl rfl,rfl⟩
theorem qPi (es:List (List Dat)) (n:Nat) (hn:1≤n∧n≤1000000000):Spec Tryz.prog 206 [.d (.sl 1 es),.I (n:Int)] [.room,.room]
  (fun r h'=>r=.fn (.func 259) [] [.ptr 0 0,.ptr 1 0]∧h'=[.row [.d (.sl 1 es)],.row [.I (n:Int)]]):=by
 refine qAa hT Tryz.func206 rfl rfl rfl rfl ?_;intro E hE
 refine qAl (qAg ?_)
 refine qAd (boxAt_ok (i0:=0) rfl rfl rfl) rfl ?_
 refine qAd (boxAt_ok (i0:=1) rfl rfl rfl) rfl ?_
 refine ww ?_
 refine qAb rfl (fun c1=>?_) (fun c1=>?_)
 ·exact absurd c1 (by simp;omega)
 refine ww ?_
 exact wwr
theorem sumTo_succ (b:List UInt8) (n:Nat):qKl b (n+1)=qOz (qKl b n) (((qOk b).drop (64*n)).take 64):=rfl
def qSj (v:Vw) (i:Nat):List UInt8:=(((vwL v).take i).map qCv).flatten
theorem outN_succ (v:Vw) {i:Nat} (h:i < 8):qSj v (i+1)=qSj v i++qCv ((vwL v).getD i 0):=by
 have hl:(vwL v).length=8:=rfl
 unfold qSj
 rw [List.take_add_one,List.map_append,List.flatten_append]
 simp [hl,h]
theorem outN_length (v:Vw):∀ i,i≤8→(qSj v i).length=4*i
 | 0,_=>rfl
 | i+1,h=>by rw [outN_succ v (by omega),List.length_append,outN_length v i (by omega)];rfl
theorem outN_all (v:Vw):qSj v 8=qVf v:=(outW_eq v).symm
theorem qTd (b:List UInt8) (hb:b.length≤900000):Spec Tryz.prog 226 [.d (.sl 1 (qAe b))] [] (fun r h'=>r=.d (.sl 1 (qAe (qOd b)))∧h'=[]):=by
 have hpl:=padW_length b
 have hpad:=qTf b hb
 have hsum:=sumW_to b
 have hsucc:=sumTo_succ b
 have hz:qIj (qKl b 0)=qIj qNb:=rfl
 generalize qOd b=fin at hsum
 subst hsum
 generalize qKl b=sf at hsucc hz
 generalize qOk b=p at hpl hpad hsucc
 obtain ⟨kk,hkk⟩:∃ kk,p.length / 64=kk:=⟨_,rfl⟩
 rw [hkk]
 have hel:=encB_length p
 have hcn:qEa 64 (qAe p)=kk:=by unfold qEa;rw [hel];omega
 have hck:=qPi (qAe p) 64 (by omega)
 have hsq:=qMq 1 2 64 (qAe p) (by omega) (by omega)
 have hxl:(qDo 64 (qAe p)).length=kk:=by simp [qDo,hcn]
 obtain ⟨Hs,hHs⟩:∃ Hs:Nat→List AObj,Hs=fun k=>[.row [.d (.sl 1 (qIj (sf k)))],.row [.d (.sl 1 (qAe p))],.row [.I (64:Nat)]]:=⟨_,rfl⟩
 refine qJv hT Tryz.func226 rfl rfl rfl rfl ?_
 intro E hE
 refine qMy ?_
 refine ww ?_
 refine qMy ?_
 refine ww ?_
 refine wwc qOf ?_
 refine ww ?_
 refine qTj (Qx:=fun e τ' h'=>e=.normal∧SubL τ' [(3,.ptr 0 0)]∧h'=Hs kk) (qMy ?_) ?_ ?_
 ·refine qAj (qAj ?_)
  refine ww ?_
  refine wwc hpad ?_
  refine ww ?_
  refine qAd (qBe rfl rfl hck [1,2] (by decide) rfl rfl rfl rfl rfl rfl rfl) rfl ?_
  refine ww ?_
  refine qNu (l:=[(11,.fn (.func 259) [] [.ptr 1 0,.ptr 2 0]),(3,.ptr 0 0)]) (h':=Hs 0) yf (by rw [hHs];exact ⟨ObLe.row (by rw [hz]),ObLe.refl _,ObLe.refl _,trivial⟩) ?_
  refine qRt (qPk Hs rfl hsq rfl (fun k=>by rw [hHs];exact ⟨rfl,rfl⟩) rfl (fun k=>by rw [hHs];rfl) (fun k=>by rw [hHs];rfl)
   (fun x=>look ((4,x)::(12,x)::[(11,.fn (.func 259) [] [.ptr 1 0,.ptr 2 0]),(3,.ptr 0 0)])) ?_ ?_ ?_)
  ·rintro k x hx E' l
   have hx':x=qLc 64 (qAe p) k:=by
    have hlt:k < qEa 64 (qAe p):=by have:=(List.getElem?_eq_some_iff.1 hx).1;simpa [qDo] using this
    simp [qDo,hlt] at hx
    exact hx.symm
   subst hx'
   refine qDk (.inr ⟨l,rfl⟩) rfl ?_
   show AWk _ _ _ _ _ _ (look ((12,qLc 64 (qAe p) k)::[(11,.fn (.func 259) [] [.ptr 1 0,.ptr 2 0]),(3,.ptr 0 0)])) _
   refine wws ?_
   exact ⟨rfl,rfl,rfl⟩
  ·rintro k x hx E' l hE'
   have hlt:k < kk:=by have:=(List.getElem?_eq_some_iff.1 hx).1;omega
   have hx':x=.d (.sl 1 (qAe ((p.drop (64*k)).take 64))):=by
    have hlt:k < qEa 64 (qAe p):=by omega
    simp [qDo,hlt] at hx
    rw [← hx]
    unfold qLc qAe
    rw [List.map_take,List.map_drop,Nat.mul_comm]
   subst hx'
   have hcp:=qJy (sf k) ((p.drop (64*k)).take 64) (by rw [List.length_take,List.length_drop];omega)
   rw [← hsucc k] at hcp
   refine qNz (l:=[(4,.d (.sl 1 (qAe ((p.drop (64*k)).take 64)))),(3,.ptr 0 0)]) yf (HLe.refl _) ?_
   subst hHs
   refine qIf (qDk (.inr ⟨l,rfl⟩) rfl ?_)
   refine wws ?_
   refine wwc hcp ?_
   refine wws ?_
   exact ⟨rfl,[],HLe.refl _⟩
  ·exact ⟨rfl,yf,by rw [hxl]⟩
 ·rintro E2 hE2 τ' h' ⟨_,hs,rfl⟩
  subst hHs
  refine qNu (h':=[.row [.d (.sl 1 (qIj (sf kk)))],.dead,.dead]) hs ⟨ObLe.refl _,trivial,trivial,trivial⟩ ?_
  refine qWe ?_
  generalize sf kk=v
  refine qAj ?_
  refine qAl (qAg ?_)
  refine wws ?_
  refine qBj 5 1 3 (es:=[]) (.inr ⟨rfl,rfl⟩) rfl ?_
  refine ww ?_
  refine qAt (ι:=Nat) (fun i=>[(5,.sl 1 (qAe (qSj v i)) (.right 3)),(19,.d (.sl 1 (qIj v))),(20,.I 8),(21,.I (i:Int))]) (fun i=>[.row [.d (.sl 1 (qIj v))],.dead,.dead,.right 1 (qAe (qSj v i)).length]) (fun i=>i≤8) (fun i=>8-i) 0 (Nat.zero_le _)
   yf (HLe.refl _) ?_
  intro i hi
  have hol:=encB_length (qSj v i)
  have hln:=outN_length v i hi
  refine ww ?_
  refine qAb rfl (fun c1=>?_) (fun c1=>?_)
  ·have hi':i < 8:=by simp at c1;omega
   have hv:=encW_at v hi'
   have hs:=outN_succ v hi'
   refine ww ?_
   refine wwi hv ?_
   refine ww ?_
   refine wwc (bytesOf_spec ((vwL v).getD i 0)) ?_
   refine ww ?_
   refine qAd (qAh (i:=3) hT rfl rfl rfl rfl rfl rfl (by show ((qAe (qSj v i)).length+4)*(1+1)≤_;omega)) rfl ?_
   refine ww ?_
   exact ⟨i+1,hi',by omega,⟨.slt (by rw [hs,encB_append]),.refl _,.refl _,.int (by rw [qAf (by omega)];omega),trivial⟩,⟨ObLe.refl _,ObLe.refl _,ObLe.refl _,⟨rfl,by rw [hs,encB_append]⟩,trivial⟩⟩
  ·have hi':i=8:=by simp at c1;omega
   subst hi'
   rw [outN_all]
   refine ww ?_
   refine rq ⟨rfl,rfl⟩ rfl AV.le.dat
 ·rintro e τ' h' he ⟨h1,_⟩
  exact absurd h1 he
theorem qVk (n:Nat):(List.replicate n [AV.d (.int .u8 0)]).flatten=qAr (List.replicate n 0):=by
 rw [qJl];unfold qAr;rw [List.map_replicate];rfl
theorem qRq (n:Nat) (hn:1≤n∧n≤1000000):Spec Tryz.prog 67 [.nils,.I (n:Int)] [.room] (fun r h'=>∃ cap:Nat,n≤cap∧r=.row 0 0 0 cap∧h'=[.row (qAr (List.replicate n 0))]):=by
 refine qAa hT Tryz.func67 rfl rfl rfl rfl ?_;intro E hE
 refine ww ?_
 refine qAb rfl (fun c1=>?_) (fun c1=>?_)
 ·exact absurd c1 (by simp)
 refine ww ?_
 refine qAd (qAc (capNil_ok (sz:=1) hT rfl rfl rfl)) rfl ?_
 refine ww ?_
 refine qAb rfl (fun c2=>?_) (fun c2=>?_)
 ·refine ww ?_
  refine qAd (qAc (capNil_ok (sz:=1) hT rfl rfl rfl)) rfl ?_
  refine qAd (qAc (nilCut_ok (sz:=1) hT rfl rfl rfl rfl)) rfl ?_
  refine ww ?_
  refine qCl (growMake_ok (k':=.i64) (n:=n) (i0:=0) (sz:=1) hT rfl rfl rfl (.inr rfl) ?_ ⟨by omega,by decide⟩ (by show n*(1+1)≤_;omega) rfl) rfl ?_
  ·exact congrArg (fun z=>AV.d (.int .i64 z)) (by show IntKind.i64.wrap ((n:Int)-IntKind.i64.wrap (0-0))=(n:Int);rw [show IntKind.i64.wrap ((0:Int)-0)=0 from rfl,qAf (by omega)];omega)
  rintro v h' ⟨cap,hcap,rfl,rfl⟩
  rw [qVk]
  refine ww ?_
  refine qAd (qAc (qMe (sz:=1) (l:=0) (r:=0) (v:=.row 0 0 0 cap) hT rfl rfl rfl rfl ⟨_,rfl⟩ (by omega) (by omega) (by simp))) rfl ?_
  refine ww ?_
  exact rq (h6:=by show (qBy 1 (qAr _)&&true)=true;rw [Bool.and_true];exact lowL_bytes _ _) ⟨cap,hcap,rfl,rfl⟩ rfl (.refl _)
 ·exfalso
  rw [qAf (n:=0-0) (by omega),qAf (by omega)] at c2
  simp at c2
  omega
theorem qPx:∀ (new:List UInt8) (pre old post:List UInt8),old.length=new.length→qBl (qAr (pre++old++post)) pre.length (qAr new)=qAr (pre++new++post)
 | [],pre,old,post,h=>by cases old with | nil=>rfl | cons _ _=>simp at h
 | c::new,pre,old,post,h=>by
  cases old with
  | nil=>simp at h
  | cons d old =>
   have e:(qAr (pre++d::old++post)).set pre.length (.d (.int .u8 (c.toNat:Int)))=qAr ((pre++[c])++old++post):=by
    unfold qAr
    rw [List.append_assoc,List.map_append,List.set_append_right _ _ (by simp)]
    simp
   have ih:=qPx new (pre++[c]) old post (by simpa using h)
   show qBl ((qAr (pre++d::old++post)).set pre.length (.d (.int .u8 (c.toNat:Int)))) (pre.length+1) (qAr new)=_
   rw [e]
   simpa using ih
theorem setRun_fill (pre new:List UInt8) {k:Nat} (h:new.length≤k):qBl (qAr (pre++List.replicate k 0)) (pre.length*1) (qAu (qAe new))=qAr (pre++new++List.replicate (k-new.length) 0):=by
 have e:List.replicate k (0:UInt8)=List.replicate new.length 0++List.replicate (k-new.length) 0:=by rw [List.replicate_append_replicate];congr 1;omega
 rw [flatAV_encB,Nat.mul_one,e,← List.append_assoc]
 exact qPx new pre _ _ (by simp)
theorem qHx (l:List (List UInt8)) (hl:l.length≤10) (h0:1≤l.flatten.length) (hb:l.flatten.length≤900000):Spec Tryz.prog 34 [.d (.sl 1 (qJo l))] [] (fun r h'=>r=.d (.sl 1 (qAe l.flatten))∧h'=[]):=by
 have hll:=encBs_length l
 have hle:=flatN_le l
 have hall:=flatN_all l
 have hsuc:∀ i,i < l.length→qGo l (i+1)=qGo l i++l.getD i []:=fun i h=>flatN_succ h
 have hz:qGo l 0=[]:=rfl
 have hg:=qRq l.flatten.length (by omega)
 generalize qGo l=fl at hle hall hsuc hz
 generalize l.flatten=tot at *
 refine qAa hT Tryz.func34 rfl rfl rfl rfl ?_;intro E hE
 refine ww ?_
 refine qAt (ι:=Nat) (fun i=>[(0,.d (.sl 1 (qJo l))),(3,.I ((fl i).length:Int)),(9,.d (.sl 1 (qJo l))),(10,.I (l.length:Int)),(11,.I (i:Int))]) (fun _=>[]) (fun i=>i≤l.length) (fun i=>l.length-i) 0 (Nat.zero_le _)
  ⟨.refl _,.int (by rw [hz];rfl),.refl _,.int (by rw [hll]),.refl _,trivial⟩ (HLe.refl _) ?_
 intro i hi
 refine ww ?_
 refine qAb rfl (fun c1=>?_) (fun c1=>?_)
 ·have hi':i < l.length:=by simp at c1;omega
  have hat:=encBs_at hi'
  have h1:=hle (i+1) hi'
  have hs:=hsuc i hi'
  have hlen:(fl (i+1)).length=(fl i).length+(l.getD i []).length:=by rw [hs,List.length_append]
  generalize l.getD i []=s at hat hs hlen
  have hel:=encB_length s
  refine ww ?_
  refine wwi hat ?_
  refine ww ?_
  refine qAb rfl (fun c2=>?_) (fun c2=>?_)
  ·exfalso
   rw [hel,qAf (by omega)] at c2
   simp at c2
   omega
  refine ww ?_
  exact ⟨i+1,hi',by omega,⟨.refl _,.int (by rw [hel,hlen,qAf (by omega)];omega),.refl _,.refl _,.int (by rw [qAf (by omega)];omega),trivial⟩,HLe.refl _⟩
 have hi':i=l.length:=by simp at c1;omega
 subst hi'
 rw [hall]
 refine qAj ?_
 refine ww ?_
 refine qFd (qQz rfl rfl hg [0] (by decide) rfl rfl rfl rfl (fun _=>by show (qBy 0 (qAr _)&&true)=true;rw [Bool.and_true];exact lowL_bytes _ _) (fun _=>rfl) (fun _=>rfl)) rfl ?_
 intro cap hcap
 refine ww ?_
 refine qAt (ι:=Nat) (fun i=>[(6,.row 0 0 (fl i).length cap),(25,.d (.sl 1 (qJo l))),(26,.I (l.length:Int)),(27,.I (i:Int))]) (fun i=>[.row (qAr (fl i++List.replicate (tot.length-(fl i).length) 0))]) (fun i=>i≤l.length) (fun i=>l.length-i) 0 (Nat.zero_le _)
  ⟨by rw [hz];exact .refl _,.refl _,.int (by rw [hll]),.refl _,trivial⟩ ⟨ObLe.row (by rw [hz];rfl),trivial⟩ ?_
 intro i hi
 refine ww ?_
 refine qAb rfl (fun c1=>?_) (fun c1=>?_)
 ·have hi':i < l.length:=by simp at c1;omega
  have hat:=encBs_at hi'
  have h1:=hle (i+1) hi'
  have hs:=hsuc i hi'
  have hlen:(fl (i+1)).length=(fl i).length+(l.getD i []).length:=by rw [hs,List.length_append]
  generalize l.getD i []=s at hat hs hlen
  have hel:=encB_length s
  have hfill:=setRun_fill (fl i) s (k:=tot.length-(fl i).length) (by omega)
  rw [← hs,show tot.length-(fl i).length-s.length=tot.length-(fl (i+1)).length by omega] at hfill
  refine ww ?_
  refine wwi hat ?_
  refine ww ?_
  refine qAd (appRowD_ok (i:=0) (es2:=qAe s) hT rfl rfl rfl rfl rfl rfl (by rw [hel];omega) (by show ((fl i).length+(qAe s).length)*1≤_;rw [hel,byteAV_length,List.length_append,List.length_replicate];omega)) rfl ?_
  refine ww ?_
  exact ⟨i+1,hi',by omega,⟨by rw [hel,← hlen];exact .refl _,.refl _,.refl _,.int (by rw [qAf (by omega)];omega),trivial⟩,⟨ObLe.row hfill,trivial⟩⟩
 have hi':i=l.length:=by simp at c1;omega
 subst hi'
 refine qFz ?_
 refine qBb (l:=[(6,.row 0 0 tot.length cap)]) (h':=[.row (qAr tot)]) ⟨by rw [hall];exact .refl _,trivial⟩ ⟨ObLe.row (by rw [hall,Nat.sub_self];simp),trivial⟩ ?_
 refine qEk 6 0 1 (qAe tot) rfl rfl (encB_length tot) hcap (qDa tot) ?_
 refine ww ?_
 exact wwr
theorem qKg (b more:List UInt8) (h1:1≤more.length) (hl:b.length+more.length≤800000):Spec Tryz.prog 267 [.d (.sl 1 (qAe b)),.d (.sl 1 (qAe more))] [] (fun r h'=>r=.d (.sl 1 (qAe (qOd (b++more))))∧h'=[]):=by
 have hf:[b,more].flatten=b++more:=by simp
 have hc:=qHx [b,more] (by simp) (by rw [hf,List.length_append];omega) (by rw [hf,List.length_append];omega)
 have hs:=qTd (b++more) (by rw [List.length_append];omega)
 rw [hf] at hc
 generalize b++more=bm at hc hs
 refine qAa hT Tryz.func267 rfl rfl rfl rfl ?_;intro E hE
 refine ww ?_
 refine wwc hc ?_
 refine ww ?_
 refine wwc hs ?_
 refine ww ?_
 exact wwr
theorem qRs (seed:List UInt8) (n:Nat) (hs:seed.length≤500000) (h1:1≤n) (hn:n≤1024):Spec Tryz.prog 219 [.d (.sl 1 (qAe seed)),.I (n:Int)] [] (fun r h'=>r=.tup [.d (.sl 1 (qAe (qCj seed n))),.d (.sl 1 (qAe (qEp seed))),.I 0]∧h'=[]):=by
 have hdq:∀ i,n≤32*i→32*i < n+32→qCj seed n=(qHv seed i).take n:=drawS_eq seed n
 have hsu:∀ i,qHv seed (i+1)=qHv seed i++qOd (seed++1::qBk 4 i):=drawN_succ seed
 have hln:∀ i,(qHv seed i).length=32*i:=drawN_length seed
 have hz:qHv seed 0=[]:=rfl
 have hnx:=qKg seed [0] (by simp) (by simp;omega)
 have hnx2:qEp seed=qOd (seed++[0]):=rfl
 rw [← hnx2] at hnx
 generalize qEp seed=nx at hnx
 generalize qCj seed n=fin at hdq
 generalize qHv seed=dn at hdq hsu hln hz
 refine qAa hT Tryz.func219 rfl rfl rfl rfl ?_;intro E hE
 refine qAj ?_
 refine qAl (qAg ?_)
 refine wws ?_
 refine qBj 4 1 0 (es:=[]) (.inr ⟨rfl,rfl⟩) rfl ?_
 refine ww ?_
 refine qAb rfl (fun c1=>?_) (fun c1=>?_)
 ·exact absurd c1 (by simp;omega)
 refine ww ?_
 refine qAt (ι:=Nat) (fun i=>[(0,.d (.sl 1 (qAe seed))),(1,.I (n:Int)),(4,.sl 1 (qAe (dn i)) (.right 0)),(7,.I (i:Int))]) (fun i=>[.right 1 (qAe (dn i)).length]) (fun i=>32*i < n+32) (fun i=>n+32-32*i) 0 (by omega)
  ⟨.refl _,.refl _,.slt (by rw [hz];rfl),.refl _,trivial⟩ ⟨⟨rfl,by rw [hz];rfl⟩,trivial⟩ ?_
 intro i hi
 have hl:=hln i
 have hel:=encB_length (dn i)
 refine ww ?_
 refine qAb rfl (fun c2=>?_) (fun c2=>?_)
 ·have c2':32*i < n:=by simp at c2;omega
  have hs1:=hsu i
  have hoc:=qDu i 4 (by omega) (by omega)
  have h5:([[Dat.int .u8 1]]++qAe (qBk 4 i):List (List Dat))=qAe (1::qBk 4 i):=rfl
  have hol:=octB_length 4 i
  have hw:=qKg seed (1::qBk 4 i) (by simp) (by simp;omega)
  have hsl:=sumW_length (seed++1::qBk 4 i)
  generalize qOd (seed++1::qBk 4 i)=sm1 at hs1 hw hsl
  have hes:=encB_length sm1
  refine ww ?_
  refine wwc hoc ?_
  refine ww ?_
  refine qAd (qBn (es:=[[.int .u8 1]]) hT rfl rfl rfl (.inl rfl) rfl (by show (1+(qAe (qBk 4 i)).length)*(1+1)≤140737488355328;rw [encB_length,hol];omega)) rfl ?_
  rw [h5]
  refine ww ?_
  refine wwc hw ?_
  refine ww ?_
  refine qAd (qAh (i:=0) hT rfl rfl rfl rfl rfl rfl (by show ((qAe (dn i)).length+(qAe sm1).length)*(1+1)≤_;omega)) rfl ?_
  refine ww ?_
  exact ⟨i+1,by omega,by omega,⟨.refl _,.refl _,.slt (by rw [hs1,encB_append]),.int (by rw [qAf (by omega)];omega),trivial⟩,⟨⟨rfl,by rw [hs1,encB_append]⟩,trivial⟩⟩
 have c2':n≤32*i:=by simp at c2;omega
 rw [hdq i c2' hi]
 refine qFz ?_
 refine qBb (l:=[(0,.d (.sl 1 (qAe seed))),(1,.I (n:Int)),(4,.d (.sl 1 (qAe (dn i))))]) (h':=[.dead]) ⟨.refl _,.refl _,.dat,trivial⟩ ⟨trivial,trivial⟩ ?_
 refine ww ?_
 refine qAz (qAc (qSw (r:=n) hT rfl rfl rfl rfl rfl (by omega) (congrArg (fun z=>AV.d (.sl 1 z)) (encB_take _ _)))) rfl rfl ?_
 refine ww ?_
 refine wwc hnx ?_
 refine ww ?_
 exact wwr
theorem qG_val:qG=1073741789:=rfl
def qTy (k:Int):Bool:=decide (0 < k∧k < 1073741789)
theorem secF_get {k:Int} (h:qTy k=true):∃ n:Nat,k=(n:Int)∧1≤n∧n < qG:=by
 have hq:=qG_val
 have:=of_decide_eq_true h
 exact ⟨k.toNat,by omega,by omega,by omega⟩
theorem secretR_spec (k:Int):Spec Tryz.prog 114 [.I k] [] (fun r h'=>r=.d (.bool (qTy k))∧h'=[]):=by
 refine qAa hT Tryz.func114 rfl rfl rfl rfl ?_;intro E hE
 refine ww ?_
 refine rq ⟨rfl,rfl⟩ rfl (.bool ?_)
 unfold qTy
 rw [Bool.eq_iff_iff]
 simp
 omega
def qMh (k:Int):Int:=if qTy k=true then ((pubS k.toNat:Nat):Int) else 0
def pubE (k:Int):Int:=if qTy k=true then 0 else 3
theorem qRl (x k:Nat) (hx:x < pG) (hk:k≤qG):Spec Tryz.prog 115 [.I (x:Int),.I (k:Int)] [] (fun r h'=>r=.I ((x ^ k % pG:Nat):Int)∧h'=[]):=by
 have hq:=qG_val
 have h:=qNt x k 30 hx (by omega) (Nat.lt_of_le_of_lt hk (by decide))
 rw [powX_eq 30 x k 1 (Nat.lt_of_le_of_lt hk (by decide)) (by decide),Nat.one_mul] at h
 exact h
theorem qLp (k:Int):Spec Tryz.prog 74 [.I k] [] (fun r h'=>r=.tup [.I (qMh k),.I (pubE k)]∧h'=[]):=by
 have hs:=secretR_spec k
 unfold qMh pubE
 refine qAa hT Tryz.func74 rfl rfl rfl rfl ?_;intro E hE
 refine ww ?_
 refine wwc hs ?_
 refine ww ?_
 refine qAb rfl (fun c1=>?_) (fun c1=>?_)
 ·have c1':¬ qTy k=true:=by simpa using c1
  rw [if_neg c1',if_neg c1']
  refine ww ?_
  exact wwr
 have c1':qTy k=true:=by simpa using c1
 rw [if_pos c1',if_pos c1']
 obtain ⟨n,rfl,h1,h2⟩:=secF_get c1'
 have hp:=qRl 4 n (by decide) (by omega)
 rw [Int.toNat_natCast]
 unfold pubS
 generalize 4 ^ n % pG=p at hp
 refine ww ?_
 refine wwc hp ?_
 refine ww ?_
 exact wwr
theorem strAt_nat (s:List UInt8) (i:Nat):qOe s (i:Int)=bI (s.getD i 0):=by
 unfold qOe bI
 rw [Int.toNat_natCast,List.getD_eq_getElem?_getD]
theorem qJz (es:List (List Dat)) (hl:es.length≤1000000):Spec Tryz.prog 82 [.d (.sl 5 es)] [] (fun r h'=>r=.d (.sl 5 es)∧h'=[]):=by
 refine qAa hT Tryz.func82 rfl rfl rfl rfl ?_;intro E hE
 refine ww ?_
 refine qCl (eqNil_ok hT (fun _=>rfl) rfl rfl rfl) rfl ?_
 rintro v h' ⟨rfl,b,rfl,hb⟩
 refine ww ?_
 refine qAb rfl (fun h1=>?_) (fun h1=>?_)
 ·obtain rfl:=hb h1
  refine ww ?_
  exact qAx rfl AV.le.nils rfl rfl rfl rfl ⟨rfl,rfl⟩
 ·refine ww ?_
  refine qAd (qBn (es:=[]) hT rfl rfl rfl (.inl rfl) rfl (by show (([]:List (List Dat)).length+es.length)*(48+1)≤140737488355328;simp;omega)) rfl ?_
  refine ww ?_
  exact qAx rfl (.refl _) rfl rfl rfl rfl ⟨rfl,rfl⟩
theorem qKa (es:List (List Dat)) (hl:es.length≤1000000):Spec Tryz.prog 81 [.d (.sl 5 es)] [] (fun r h'=>r=.d (.sl 5 es)∧h'=[]):=by
 refine qAa hT Tryz.func81 rfl rfl rfl rfl ?_;intro E hE
 refine ww ?_
 refine qCl (eqNil_ok hT (fun _=>rfl) rfl rfl rfl) rfl ?_
 rintro v h' ⟨rfl,b,rfl,hb⟩
 refine ww ?_
 refine qAb rfl (fun h1=>?_) (fun h1=>?_)
 ·obtain rfl:=hb h1
  refine ww ?_
  exact qAx rfl AV.le.nils rfl rfl rfl rfl ⟨rfl,rfl⟩
 ·refine ww ?_
  refine qAd (qBn (es:=[]) hT rfl rfl rfl (.inl rfl) rfl (by show (([]:List (List Dat)).length+es.length)*(40+1)≤140737488355328;simp;omega)) rfl ?_
  refine ww ?_
  exact qAx rfl (.refl _) rfl rfl rfl rfl ⟨rfl,rfl⟩
theorem cloneFile_spec (f:Fil) (hl:f.con.length≤1000000):Spec Tryz.prog 78 [qOv f] [] (fun r h'=>r=qOv f∧h'=[]):=by
 obtain ⟨x1,x2,x3,x4,x5⟩:=f
 have hbl:=encB_length x3
 have hc:=qAv (qAe x3) (by rw [hbl];exact hl)
 refine qAa hT Tryz.func78 rfl rfl rfl rfl ?_;intro E hE
 refine ww ?_
 refine wwc hc ?_
 refine ww ?_
 exact wwr
theorem encFils_snoc {l:List Fil} {i:Nat} (h:i < l.length):qAi (l.take (i+1))=qAi (l.take i)++[qFm l[i]]:=by
 unfold qAi;rw [List.take_succ_eq_append_getElem h,List.map_append];rfl
theorem eachFi_spec (l:List Fil) (hl:l.length≤100000) (hf:∀ a,a∈l→a.con.length≤1000000):Spec Tryz.prog 77 [.d (.sl 5 (qAi l)),.fn (.func 78) [] []] [] (fun r h'=>r=.d (.sl 5 (qAi l))∧h'=[]):=by
 have hll:=encFils_length l
 refine qAa hT Tryz.func77 rfl rfl rfl rfl ?_;intro E hE
 refine qAj ?_
 refine qAl (qAg ?_)
 refine wws ?_
 refine qAl (qAg ?_)
 refine wws ?_
 refine qBj 5 5 0 (es:=[]) (.inr ⟨rfl,rfl⟩) rfl ?_
 refine ww ?_
 refine qBr (ι:=Nat) (fun i=>[(1,.fn (.func 78) [] []),(5,.sl 5 (qAi (l.take i)) (.right 0)),(8,.d (.sl 5 (qAi l))),(9,.I ((qAi l).length:Int)),(10,.I (i:Int))]) (fun i=>[.right 5 (qAi (l.take i)).length]) (fun i=>i≤l.length) (fun i=>l.length-i) 0 (Nat.zero_le _)
  yf (HLe.refl _) ?_
 intro i hi
 have hwr:IntKind.i64.wrap ((i:Int)+1)=((i+1:Nat):Int):=by rw [qAf (by omega)];simp
 have hpl:(qAi (l.take i)).length=i:=by rw [encFils_length,List.length_take];omega
 refine ww ?_
 refine qAb rfl (fun c3=>?_) (fun c3=>?_)
 ·have c3':i < l.length:=by rw [hll] at c3;simpa using c3
  have hel:=encFils_at c3'
  have hsn:=encFils_snoc c3'
  have hcl:=cloneFile_spec l[i] (hf _ (List.getElem_mem c3'))
  generalize l[i]=x at hel hsn hcl
  obtain ⟨x1,x2,x3,x4,x5⟩:=x
  unfold qFm at hel hsn
  simp only at hel hsn
  generalize qAi (l.take i)=pre at hsn hpl ⊢
  refine ww ?_
  refine wwi hel ?_
  refine ww ?_
  refine wwc hcl ?_
  refine ww ?_
  refine qAd (qAh (i:=0) hT rfl rfl rfl rfl rfl rfl (by show (pre.length+1)*(56+1)≤_;omega)) rfl ?_
  refine ww ?_
  exact ⟨i+1,[_],c3',by omega,⟨.refl _,.slt hsn.symm,.refl _,.refl _,.int hwr,trivial⟩,⟨⟨rfl,by rw [hsn]⟩,ObLe.refl _,trivial⟩,Env.below_mono hE (by simp),rfl,rfl⟩
 ·have c3':i=l.length:=by rw [hll] at c3;simp at c3;omega
  subst c3'
  rw [List.take_length]
  refine ww ?_
  refine rq ⟨rfl,rfl⟩ rfl AV.le.dat
theorem cloneApp_spec (a:Apk) (hl:a.files.length≤100000∧a.name.length≤1000000) (hf:∀ f,f∈a.files→f.con.length≤1000000):Spec Tryz.prog 80 [qPc a] [] (fun r h'=>r=qPc a∧h'=[]):=by
 obtain ⟨x1,x2⟩:=a
 have hbl:=encB_length x1
 have hc:=qAv (qAe x1) (by rw [hbl];exact hl.2)
 have he:=eachFi_spec x2 hl.1 hf
 refine qAa hT Tryz.func80 rfl rfl rfl rfl ?_;intro E hE
 refine wwn ?_
 refine qBh (fun i=>bif Nat.beq i 1||Nat.beq i 4 then [0] else bif Nat.beq i 7 then [1] else []) (fun i=>bif Nat.beq i 7 then [1] else []) mixed (by kernel_rfl) ?_
 refine wwg ?_
 refine wwdc hc ?_
 refine wwg ?_
 refine wwdc he ?_
 refine wwg ?_
 refine ww ?_
 exact wwr
theorem encApks_snoc {l:List Apk} {i:Nat} (h:i < l.length):qAp (l.take (i+1))=qAp (l.take i)++[qGh l[i]]:=by
 unfold qAp;rw [List.take_succ_eq_append_getElem h,List.map_append];rfl
theorem eachAp_spec (l:List Apk) (hl:l.length≤100000) (hf:∀ a,a∈l→a.files.length≤100000∧a.name.length≤1000000) (hg:∀ a,a∈l→∀ f,f∈a.files→f.con.length≤1000000):Spec Tryz.prog 79 [.d (.sl 2 (qAp l)),.fn (.func 80) [] []] [] (fun r h'=>r=.d (.sl 2 (qAp l))∧h'=[]):=by
 have hll:=encApks_length l
 refine qAa hT Tryz.func79 rfl rfl rfl rfl ?_;intro E hE
 refine qAj ?_
 refine qAl (qAg ?_)
 refine wws ?_
 refine qAl (qAg ?_)
 refine wws ?_
 refine qBj 5 2 0 (es:=[]) (.inr ⟨rfl,rfl⟩) rfl ?_
 refine ww ?_
 refine qBr (ι:=Nat) (fun i=>[(1,.fn (.func 80) [] []),(5,.sl 2 (qAp (l.take i)) (.right 0)),(8,.d (.sl 2 (qAp l))),(9,.I ((qAp l).length:Int)),(10,.I (i:Int))]) (fun i=>[.right 2 (qAp (l.take i)).length]) (fun i=>i≤l.length) (fun i=>l.length-i) 0 (Nat.zero_le _)
  yf (HLe.refl _) ?_
 intro i hi
 have hwr:IntKind.i64.wrap ((i:Int)+1)=((i+1:Nat):Int):=by rw [qAf (by omega)];simp
 have hpl:(qAp (l.take i)).length=i:=by rw [encApks_length,List.length_take];omega
 refine ww ?_
 refine qAb rfl (fun c3=>?_) (fun c3=>?_)
 ·have c3':i < l.length:=by rw [hll] at c3;simpa using c3
  have hel:=encApks_at c3'
  have hsn:=encApks_snoc c3'
  have hcl:=cloneApp_spec l[i] (hf _ (List.getElem_mem c3')) (hg _ (List.getElem_mem c3'))
  generalize l[i]=x at hel hsn hcl
  obtain ⟨x1,x2⟩:=x
  unfold qGh at hel hsn
  simp only at hel hsn
  generalize qAp (l.take i)=pre at hsn hpl ⊢
  refine ww ?_
  refine wwi hel ?_
  refine ww ?_
  refine wwc hcl ?_
  refine ww ?_
  refine qAd (qAh (i:=0) hT rfl rfl rfl rfl rfl rfl (by show (pre.length+1)*(48+1)≤_;omega)) rfl ?_
  refine ww ?_
  exact ⟨i+1,[_],c3',by omega,⟨.refl _,.slt hsn.symm,.refl _,.refl _,.int hwr,trivial⟩,⟨⟨rfl,by rw [hsn]⟩,ObLe.refl _,trivial⟩,Env.below_mono hE (by simp),rfl,rfl⟩
 ·have c3':i=l.length:=by rw [hll] at c3;simp at c3;omega
  subst c3'
  rw [List.take_length]
  refine ww ?_
  refine rq ⟨rfl,rfl⟩ rfl AV.le.dat
structure PerLen (p:Per):Prop where
 root:p.root.length≤100000∧∀ f,f∈p.root→f.con.length≤1000000
 apps:p.apps.length≤100000∧(∀ a,a∈p.apps→a.files.length≤100000∧a.name.length≤1000000)∧∀ a,a∈p.apps→∀ f,f∈a.files→f.con.length≤1000000
 str:p.number.length≤1000000∧p.pin.length≤1000000∧p.puk.length≤1000000∧p.ident.length≤1000000∧p.seed.length≤1000000
 infos:p.infos.length≤1000000
 tps:p.tps.length≤1000000
def qQb:List AV:=[.sl 5 [] .full,.sl 2 [] .full,.d (.str []),.sl 1 [] .full,.sl 1 [] .full,.sl 1 [] .full,.d (.int .i64 0),.d (.int .i64 0),.d (.bool false),.sl 5 [] .full,.d (.int .i64 0),.d (.int .i64 0),.sl 5 [] .full,.d (.int .i64 0),.sl 1 [] .full,.sl 1 [] .full]
theorem clonePer_spec (p:Per) (hp:PerLen p):Spec Tryz.prog 44 [qIm p] [] (fun r h'=>r=qIm p∧h'=[]):=by
 have e1:=eachFi_spec p.root hp.root.1 hp.root.2
 have e2:=eachAp_spec p.apps hp.apps.1 hp.apps.2.1 hp.apps.2.2
 have c0:=qAv (qAe p.number) (by rw [encB_length];exact hp.str.1)
 have c1:=qAv (qAe p.pin) (by rw [encB_length];exact hp.str.2.1)
 have c2:=qAv (qAe p.puk) (by rw [encB_length];exact hp.str.2.2.1)
 have c3:=qAv (qAe p.ident) (by rw [encB_length];exact hp.str.2.2.2.1)
 have c4:=qAv (qAe p.seed) (by rw [encB_length];exact hp.str.2.2.2.2)
 have ci:=qKa (qEr p.infos) (by rw [encFs_length];exact hp.infos)
 have ct:=qJz (qAm p.tps) (by rw [encTps_length];exact hp.tps)
 clear hp
 obtain ⟨root,apps,zone,number,pin,puk,pr,ur,basic,infos,ck,ak,tps,tday,ident,seed⟩:=p
 simp only at *
 refine qAa hT Tryz.func44 rfl rfl rfl rfl ?_;intro E hE
 refine qAj ?_
 refine wwn ?_
 refine qBh (fun i=>bif Nat.beq i 2||Nat.beq i 6||Nat.beq i 10 then [1] else []) (fun i=>bif Nat.beq i 10 then [1] else []) mixed (by kernel_rfl) ?_
 refine wwg ?_
 refine wwdc e1 ?_
 refine wwg ?_
 refine wwdc e2 ?_
 refine wwg ?_
 refine qAl (qAl (qAg ?_))
 refine wws ?_
 refine qAd (buildRowAt_ok (i0:=0) hT rfl rfl rfl) rfl ?_
 refine ww ?_
 refine qAt (ι:=Nat) (fun i=>[(1,.ptr 1 0),(2,.ptr 2 0),(20,.row 0 0 5 5),(21,.I 5),(22,.I (i:Int))])
  (fun _=>[.row [.ptr 1 3,.ptr 1 4,.ptr 1 5,.ptr 1 14,.ptr 1 15],.row (qCy ⟨root,apps,zone,number,pin,puk,pr,ur,basic,infos,ck,ak,tps,tday,ident,seed⟩),.row qQb]) (fun i=>i≤5) (fun i=>5-i) 0 (Nat.zero_le _)
  yf (HLe.refl _) ?_
 intro i hi
 rcases (by omega:i=0∨i=1∨i=2∨i=3∨i=4∨i=5) with rfl | rfl | rfl | rfl | rfl | rfl
 ·refine ww ?_
  refine qAb rfl (fun q=>?_) (fun q=>absurd q (by decide))
  refine ww ?_
  refine qAd (qAc (rowAddr_ok (sz:=1) hT rfl rfl rfl rfl ⟨by decide,by decide⟩)) rfl ?_
  refine ww ?_
  refine wwc c0 ?_
  refine ww ?_
  exact ⟨1,by omega,by omega,yf,HLe.refl _⟩
 ·refine ww ?_
  refine qAb rfl (fun q=>?_) (fun q=>absurd q (by decide))
  refine ww ?_
  refine qAd (qAc (rowAddr_ok (sz:=1) hT rfl rfl rfl rfl ⟨by decide,by decide⟩)) rfl ?_
  refine ww ?_
  refine wwc c1 ?_
  refine ww ?_
  exact ⟨2,by omega,by omega,yf,HLe.refl _⟩
 ·refine ww ?_
  refine qAb rfl (fun q=>?_) (fun q=>absurd q (by decide))
  refine ww ?_
  refine qAd (qAc (rowAddr_ok (sz:=1) hT rfl rfl rfl rfl ⟨by decide,by decide⟩)) rfl ?_
  refine ww ?_
  refine wwc c2 ?_
  refine ww ?_
  exact ⟨3,by omega,by omega,yf,HLe.refl _⟩
 ·refine ww ?_
  refine qAb rfl (fun q=>?_) (fun q=>absurd q (by decide))
  refine ww ?_
  refine qAd (qAc (rowAddr_ok (sz:=1) hT rfl rfl rfl rfl ⟨by decide,by decide⟩)) rfl ?_
  refine ww ?_
  refine wwc c3 ?_
  refine ww ?_
  exact ⟨4,by omega,by omega,yf,HLe.refl _⟩
 ·refine ww ?_
  refine qAb rfl (fun q=>?_) (fun q=>absurd q (by decide))
  refine ww ?_
  refine qAd (qAc (rowAddr_ok (sz:=1) hT rfl rfl rfl rfl ⟨by decide,by decide⟩)) rfl ?_
  refine ww ?_
  refine wwc c4 ?_
  refine ww ?_
  exact ⟨5,by omega,by omega,yf,HLe.refl _⟩
 ·refine ww ?_
  refine qAb rfl (fun q=>absurd q (by decide)) (fun q=>?_)
  refine ww ?_
  refine wwc ci ?_
  refine ww ?_
  refine wwc ct ?_
  refine ww ?_
  exact wwr
end Tdoc
namespace Tdoc
open Go
def byG (L:List Int) (a:Nat):Nat→List UInt8×Nat
 | 0=>([],a)
 | m+1=>(bOf (nxV L a 256)::(byG L (nxA L a) m).1,(byG L (nxA L a) m).2)
def byF (L:List Int) (a n:Nat):List UInt8×Nat:=byG L (nxA L a) (nxV L a ((n+1:Nat):Int)).toNat
theorem byG_ok {L:List Int}:∀ (m a:Nat),a≤L.length→(byG L a m).1.length=m∧(byG L a m).2≤L.length
 | 0,a,h=>⟨rfl,h⟩
 | m+1,a,h=>by
  obtain ⟨h1,h2⟩:=byG_ok m (nxA L a) (nxA_le h)
  exact ⟨by simp [byG,h1],h2⟩
theorem byF_ok {L:List Int} {a n:Nat} (h:a≤L.length):(byF L a n).1.length≤n∧(byF L a n).2≤L.length:=by
 have hv:=nxV_range (L:=L) (a:=a) (n:=((n+1:Nat):Int)) (by omega)
 obtain ⟨h1,h2⟩:=byG_ok (L:=L) (nxV L a ((n+1:Nat):Int)).toNat (nxA L a) (nxA_le h)
 exact ⟨by unfold byF;omega,h2⟩
def qIy (L:List Int) (a:Nat):Int×Int×Nat:=if nxV L a 5=3 then (nxV L a 5,nxV L (nxA L a) 16,nxA L (nxA L a)) else (nxV L a 5,0,nxA L a)
theorem accF_ok {L:List Int} {a:Nat} (h:a≤L.length):(qIy L a).2.2≤L.length:=by
 unfold qIy;split
 ·exact nxA_le (nxA_le h)
 ·exact nxA_le h
def fil1 (L:List Int) (a k:Nat):Fil×Nat :=
 (⟨256+(k:Int),if nxV L (qIy L (byF L a 60).2).2.2 2=1 then 1+(k:Int) else 0,(byF L a 60).1,(qIy L (byF L a 60).2).1,(qIy L (byF L a 60).2).2.1⟩,nxA L (qIy L (byF L a 60).2).2.2)
theorem qUn {L:List Int} {a k:Nat} (h:a≤L.length):(fil1 L a k).1.con.length≤60∧(fil1 L a k).2≤L.length:=by
 obtain ⟨h1,h2⟩:=byF_ok (n:=60) h
 exact ⟨h1,nxA_le (accF_ok h2)⟩
def qNp (L:List Int):Nat→List Fil→Nat→List Fil×Nat
 | 0,out,a=>(out,a)
 | n+1,out,a=>qNp L n (out++[(fil1 L a out.length).1]) (fil1 L a out.length).2
def qGp (L:List Int) (a:Nat):List Fil×Nat:=qNp L (nxV L a 5).toNat [] (nxA L a)
theorem filG_ok {L:List Int}:∀ (n:Nat) (out:List Fil) (a:Nat),a≤L.length→(∀ f,f∈out→f.con.length≤60)→(qNp L n out a).1.length=out.length+n∧(∀ f,f∈(qNp L n out a).1→f.con.length≤60)∧(qNp L n out a).2≤L.length
 | 0,out,a,h,ho=>⟨rfl,ho,h⟩
 | n+1,out,a,h,ho=>by
  obtain ⟨g1,g2⟩:=qUn (k:=out.length) h
  obtain ⟨h1,h2,h3⟩:=filG_ok n (out++[(fil1 L a out.length).1]) (fil1 L a out.length).2 g2 (fun f hf=>by
   rcases List.mem_append.1 hf with hf | hf
   ·exact ho f hf
   ·rw [List.mem_singleton.1 hf];exact g1)
  exact ⟨by rw [qNp,h1];simp;omega,h2,h3⟩
theorem filF_ok {L:List Int} {a:Nat} (h:a≤L.length):(qGp L a).1.length≤4∧(∀ f,f∈(qGp L a).1→f.con.length≤60)∧(qGp L a).2≤L.length:=by
 have hv:=nxV_range (L:=L) (a:=a) (n:=5) (by omega)
 obtain ⟨h1,h2,h3⟩:=filG_ok (L:=L) (nxV L a 5).toNat [] (nxA L a) (nxA_le h) (fun f hf=>by cases hf)
 exact ⟨by unfold qGp;rw [h1];simp;omega,h2,h3⟩
def apG (L:List Int):Nat→List Apk→Nat→List Apk×Nat
 | 0,out,a=>(out,a)
 | n+1,out,a=>apG L n (out++[⟨[160,bOf ((n+1:Nat):Int)],(qGp L a).1⟩]) (qGp L a).2
def ApOk (a:Apk):Prop:=a.name.length≤3∧a.files.length≤5∧∀ f,f∈a.files→f.con.length≤60
theorem apG_ok {L:List Int}:∀ (n:Nat) (out:List Apk) (a:Nat),a≤L.length→(∀ f,f∈out→ApOk f)→(apG L n out a).1.length=out.length+n∧(∀ f,f∈(apG L n out a).1→ApOk f)∧(apG L n out a).2≤L.length
 | 0,out,a,h,ho=>⟨rfl,ho,h⟩
 | n+1,out,a,h,ho=>by
  obtain ⟨g1,g2,g3⟩:=filF_ok h
  obtain ⟨h1,h2,h3⟩:=apG_ok n (out++[⟨[160,bOf ((n+1:Nat):Int)],(qGp L a).1⟩]) (qGp L a).2 g3 (fun f hf=>by
   rcases List.mem_append.1 hf with hf | hf
   ·exact ho f hf
   ·rw [List.mem_singleton.1 hf];exact ⟨by simp,by simp only;omega,g2⟩)
  exact ⟨by rw [apG,h1];simp;omega,h2,h3⟩
def qPo (L:List Int) (a:Nat):List Fil×List Apk×Nat :=
 ((qGp L a).1,(apG L (nxV L (qGp L a).2 3).toNat [] (nxA L (qGp L a).2)).1,(apG L (nxV L (qGp L a).2 3).toNat [] (nxA L (qGp L a).2)).2)
theorem flsF_ok {L:List Int} {a:Nat} (h:a≤L.length):(qPo L a).1.length≤4∧(∀ f,f∈(qPo L a).1→f.con.length≤60)∧(qPo L a).2.1.length≤2∧(∀ f,f∈(qPo L a).2.1→ApOk f)∧(qPo L a).2.2≤L.length:=by
 obtain ⟨g1,g2,g3⟩:=filF_ok h
 have hv:=nxV_range (L:=L) (a:=(qGp L a).2) (n:=3) (by omega)
 obtain ⟨h1,h2,h3⟩:=apG_ok (L:=L) (nxV L (qGp L a).2 3).toNat [] (nxA L (qGp L a).2) (nxA_le g3) (fun f hf=>by cases hf)
 exact ⟨g1,g2,by unfold qPo;rw [h1];simp;omega,h2,h3⟩
open Go Go.Proofs
theorem bOf_u8 {x:Int}:qAe [bOf x]=[[Dat.int .u8 (IntKind.u8.wrap x)]]:=by rw [bOf_wrap];rfl
theorem qDv (L:List Int) (hL:L.length≤1000000) (a:Nat) (ha:a≤L.length) (n:Nat) (hn:n≤1000000) :
  Spec Tryz.prog 31 [.ptr 0 0,.I (n:Int)] [.row (qAn L a),.room] (fun r h'=>r=.sl 1 (qAe (byF L a n).1) (.right 1)∧h'=[.row (qAn L (byF L a n).2),.right 1 (qAe (byF L a n).1).length]):=by
 have hw0:IntKind.i64.wrap ((n:Int)+1)=((n+1:Nat):Int):=by rw [qAf (by omega)];omega
 have hN:=qAq L hL a ha ((n+1:Nat):Int) (by omega) (by omega)
 have hv:=nxV_range (L:=L) (a:=a) (n:=((n+1:Nat):Int)) (by omega)
 have hA:=nxA_le ha
 unfold byF
 generalize nxV L a ((n+1:Nat):Int)=m at hN hv ⊢
 generalize nxA L a=a1 at hN hA ⊢
 obtain ⟨m,rfl⟩:∃ m':Nat,m=(m':Int):=⟨m.toNat,by omega⟩
 rw [Int.toNat_natCast]
 rw [← hw0] at hN
 generalize hfin:byG L a1 m=fin
 refine qAa hT Tryz.func31 rfl rfl rfl rfl ?_;intro E hE
 refine ww ?_
 refine qAd (qAy rfl rfl (hN) [0] (by decide) rfl rfl rfl rfl rfl rfl rfl) rfl ?_
 refine ww ?_
 refine qBj 5 1 1 (es:=[]) (.inr ⟨rfl,rfl⟩) rfl ?_
 refine qAt (ι:=Nat×Nat×List UInt8) (fun x=>[(0,.ptr 0 0),(5,.sl 1 (qAe x.2.2) (.right 1)),(6,.I (x.2.1:Int))]) (fun x=>[.row (qAn L x.1),.right 1 (qAe x.2.2).length])
  (fun x=>x.1≤L.length∧x.2.2++(byG L x.1 x.2.1).1=fin.1∧(byG L x.1 x.2.1).2=fin.2∧x.2.2.length+x.2.1≤n) (fun x=>x.2.1) (a1,m,[]) ⟨hA,by simp only [hfin,List.nil_append],by simp only [hfin],by simp;omega⟩ yf (HLe.refl _) ?_
 rintro ⟨b,m,out⟩ ⟨h1,h2,h3,h4⟩
 simp only at h1 h2 h3 h4 ⊢
 have hol:=encB_length out
 refine ww ?_
 refine qAb rfl (fun h5=>?_) (fun h5=>?_)
 ·obtain ⟨m,rfl⟩:∃ m',m=m'+1:=⟨m-1,by simp at h5;omega⟩
  have hN:=qAq L hL b h1 256 (by omega) (by omega)
  have hA:=nxA_le h1
  rw [byG] at h2 h3
  simp only at h2 h3
  generalize nxA L b=b2 at hN hA h2 h3
  generalize nxV L b 256=x at hN h2 h3
  refine ww ?_
  refine qAd (qAy rfl rfl (hN) [0] (by decide) rfl rfl rfl rfl rfl rfl rfl) rfl ?_
  refine ww ?_
  refine qAd (qAh (i:=1) hT rfl rfl rfl rfl rfl rfl (by show ((qAe out).length+1)*(1+1)≤_;omega)) rfl ?_
  have hwm:IntKind.i64.wrap (((m+1:Nat):Int)-1)=(m:Int):=by rw [qAf (by omega)];omega
  refine ww ?_
  have hres:qAe (out++[bOf x])=qAe out++[[Dat.int .u8 (IntKind.u8.wrap x)]]:=by rw [encB_append,bOf_u8]
  exact ⟨(b2,m,out++[bOf x]),⟨hA,by rw [← h2];simp,h3,by simp only [List.length_append,List.length_singleton];omega⟩,by simp only;omega,⟨.refl _,AV.le.eq (by rw [hres];rfl),.int hwm,trivial⟩,⟨ObLe.refl _,⟨rfl,by rw [hres]⟩,trivial⟩⟩
 ·have h5':m=0:=by simp at h5;omega
  subst h5'
  simp only [byG,List.append_nil] at h2 h3
  subst h2
  subst h3
  refine ww ?_
  exact qEe ⟨rfl,rfl⟩ rfl (.refl _) rfl rfl rfl rfl
theorem qBw (L:List Int) (hL:L.length≤1000000) (a:Nat) (ha:a≤L.length) (n:Nat) (hn:n≤1000000) :
  Spec Tryz.prog 31 [.ptr 0 0,.I (n:Int)] [.row (qAn L a)] (fun r h'=>r=.d (.sl 1 (qAe (byF L a n).1))∧h'=[.row (qAn L (byF L a n).2)]):=by
 have hw0:IntKind.i64.wrap ((n:Int)+1)=((n+1:Nat):Int):=by rw [qAf (by omega)];omega
 have hN:=qAq L hL a ha ((n+1:Nat):Int) (by omega) (by omega)
 have hv:=nxV_range (L:=L) (a:=a) (n:=((n+1:Nat):Int)) (by omega)
 have hA:=nxA_le ha
 unfold byF
 generalize nxV L a ((n+1:Nat):Int)=m at hN hv ⊢
 generalize nxA L a=a1 at hN hA ⊢
 obtain ⟨m,rfl⟩:∃ m':Nat,m=(m':Int):=⟨m.toNat,by omega⟩
 rw [Int.toNat_natCast]
 rw [← hw0] at hN
 generalize hfin:byG L a1 m=fin
 refine qAa hT Tryz.func31 rfl rfl rfl rfl ?_;intro E hE
 refine ww ?_
 refine qAd (qAy rfl rfl (hN) [0] (by decide) rfl rfl rfl rfl rfl rfl rfl) rfl ?_
 refine ww ?_
 refine qAj (qBj 5 1 1 (es:=[]) (.inr ⟨rfl,rfl⟩) rfl ?_)
 refine qAt (ι:=Nat×Nat×List UInt8) (fun x=>[(0,.ptr 0 0),(5,.sl 1 (qAe x.2.2) (.right 1)),(6,.I (x.2.1:Int))]) (fun x=>[.row (qAn L x.1),.right 1 (qAe x.2.2).length])
  (fun x=>x.1≤L.length∧x.2.2++(byG L x.1 x.2.1).1=fin.1∧(byG L x.1 x.2.1).2=fin.2∧x.2.2.length+x.2.1≤n) (fun x=>x.2.1) (a1,m,[]) ⟨hA,by simp only [hfin,List.nil_append],by simp only [hfin],by simp;omega⟩ yf (HLe.refl _) ?_
 rintro ⟨b,m,out⟩ ⟨h1,h2,h3,h4⟩
 simp only at h1 h2 h3 h4 ⊢
 have hol:=encB_length out
 refine ww ?_
 refine qAb rfl (fun h5=>?_) (fun h5=>?_)
 ·obtain ⟨m,rfl⟩:∃ m',m=m'+1:=⟨m-1,by simp at h5;omega⟩
  have hN:=qAq L hL b h1 256 (by omega) (by omega)
  have hA:=nxA_le h1
  rw [byG] at h2 h3
  simp only at h2 h3
  generalize nxA L b=b2 at hN hA h2 h3
  generalize nxV L b 256=x at hN h2 h3
  refine ww ?_
  refine qAd (qAy rfl rfl (hN) [0] (by decide) rfl rfl rfl rfl rfl rfl rfl) rfl ?_
  refine ww ?_
  refine qAd (qAh (i:=1) hT rfl rfl rfl rfl rfl rfl (by show ((qAe out).length+1)*(1+1)≤_;omega)) rfl ?_
  have hwm:IntKind.i64.wrap (((m+1:Nat):Int)-1)=(m:Int):=by rw [qAf (by omega)];omega
  refine ww ?_
  have hres:qAe (out++[bOf x])=qAe out++[[Dat.int .u8 (IntKind.u8.wrap x)]]:=by rw [encB_append,bOf_u8]
  exact ⟨(b2,m,out++[bOf x]),⟨hA,by rw [← h2];simp,h3,by simp only [List.length_append,List.length_singleton];omega⟩,by simp only;omega,⟨.refl _,AV.le.eq (by rw [hres];rfl),.int hwm,trivial⟩,⟨ObLe.refl _,⟨rfl,by rw [hres]⟩,trivial⟩⟩
 ·have h5':m=0:=by simp at h5;omega
  subst h5'
  simp only [byG,List.append_nil] at h2 h3
  subst h2
  subst h3
  refine ww ?_
  exact qEe ⟨rfl,rfl⟩ rfl .dat rfl rfl rfl rfl
theorem qEi (L:List Int) (hL:L.length≤1000000) (a:Nat) (ha:a≤L.length) (n:Int) (h1:1≤n) (hn:n≤4611686018427387904) :
  Spec Tryz.prog 8 [.ptr 0 0,.I n] [.row (qAn L a)] (fun r h'=>r=.d (.bool (decide (nxV L a n=n-1)))∧h'=[.row (qAn L (nxA L a))]):=by
 have hN:=qAq L hL a ha n h1 hn
 have hw:IntKind.i64.wrap (n-1)=n-1:=qAf (by omega)
 generalize nxV L a n=v at hN ⊢
 generalize nxA L a=a1 at hN ⊢
 refine qAa hT Tryz.func8 rfl rfl rfl rfl ?_;intro E hE
 refine ww ?_
 refine qAd (qAy rfl rfl (hN) [0] (by decide) rfl rfl rfl rfl rfl rfl rfl) rfl ?_
 refine ww ?_
 exact qEe ⟨rfl,rfl⟩ rfl (.bool (by rw [hw];rfl)) rfl rfl rfl rfl
theorem qGm (L:List Int) (hL:L.length≤1000000) (a:Nat) (ha:a≤L.length) :
  Spec Tryz.prog 113 [.ptr 0 0] [.row (qAn L a)] (fun r h'=>r=.agg [.d (.int .i64 (qIy L a).1),.d (.int .i64 (qIy L a).2.1)]∧h'=[.row (qAn L (qIy L a).2.2)]):=by
 have hN:=qAq L hL a ha 5 (by omega) (by omega)
 have hA:=nxA_le ha
 have hN2:=qAq L hL (nxA L a) hA 16 (by omega) (by omega)
 unfold qIy
 generalize nxV L (nxA L a) 16=w at hN2 ⊢
 generalize nxA L (nxA L a)=a2 at hN2 ⊢
 generalize nxV L a 5=v at hN ⊢
 generalize nxA L a=a1 at hN hN2 ⊢
 refine qAa hT Tryz.func113 rfl rfl rfl rfl ?_;intro E hE
 refine qAj (qAj ?_)
 refine ww ?_
 refine qAd (qAy rfl rfl (hN) [0] (by decide) rfl rfl rfl rfl rfl rfl rfl) rfl ?_
 refine ww ?_
 refine qAb rfl (fun c1=>?_) (fun c1=>?_)
 ·have c1':v=3:=by simpa using c1
  rw [if_pos c1']
  refine ww ?_
  refine qAd (qAy rfl rfl (hN2) [0] (by decide) rfl rfl rfl rfl rfl rfl rfl) rfl ?_
  refine ww ?_
  exact wwr
 ·have c1':¬ v=3:=by simpa using c1
  rw [if_neg c1']
  refine ww ?_
  exact wwr
theorem qLt (L:List Int) (hL:L.length≤1000000) (a:Nat) (ha:a≤L.length) :
  Spec Tryz.prog 73 [.ptr 0 0] [.row (qAn L a),.room] (fun r h'=>r=.sl 5 (qAi (qGp L a).1) (.right 1)∧h'=[.row (qAn L (qGp L a).2),.right 5 (qAi (qGp L a).1).length]):=by
 have hN:=qAq L hL a ha 5 (by omega) (by omega)
 have hv:=nxV_range (L:=L) (a:=a) (n:=5) (by omega)
 have hA:=nxA_le ha
 unfold qGp
 generalize nxV L a 5=m at hN hv ⊢
 generalize nxA L a=a1 at hN hA ⊢
 obtain ⟨m,rfl⟩:∃ m':Nat,m=(m':Int):=⟨m.toNat,by omega⟩
 rw [Int.toNat_natCast]
 generalize hfin:qNp L m [] a1=fin
 refine qAa hT Tryz.func73 rfl rfl rfl rfl ?_;intro E hE
 refine ww ?_
 refine qAd (qAy rfl rfl (hN) [0] (by decide) rfl rfl rfl rfl rfl rfl rfl) rfl ?_
 refine ww ?_
 refine qBj 3 5 1 (es:=[]) (.inr ⟨rfl,rfl⟩) rfl ?_
 refine qBr (ι:=Nat×Nat×List Fil) (fun x=>[(0,.ptr 0 0),(3,.sl 5 (qAi x.2.2) (.right 1)),(4,.I (x.2.1:Int))]) (fun x=>[.row (qAn L x.1),.right 5 (qAi x.2.2).length])
  (fun x=>x.1≤L.length∧qNp L x.2.1 x.2.2 x.1=fin∧x.2.2.length+x.2.1≤4) (fun x=>x.2.1) (a1,m,[]) ⟨hA,hfin,by simp;omega⟩ yf (HLe.refl _) ?_
 rintro ⟨b,m,out⟩ ⟨h1,h2,h3⟩
 simp only at h1 h2 h3 ⊢
 have hol:=encFils_length out
 refine ww ?_
 refine qAb rfl (fun h5=>?_) (fun h5=>?_)
 ·obtain ⟨m,rfl⟩:∃ m',m=m'+1:=⟨m-1,by simp at h5;omega⟩
  have hB:=qBw L hL b h1 60 (by omega)
  have hb1:=(byF_ok (n:=60) h1).2
  have hc:=(byF_ok (n:=60) h1).1
  have hAc:=qGm L hL _ hb1
  have hb2:=accF_ok hb1
  have hO:=qEi L hL _ hb2 2 (by omega) (by omega)
  have hb3:=nxA_le hb2
  have hf1:fil1 L b out.length=(⟨256+(out.length:Int),if nxV L (qIy L (byF L b 60).2).2.2 2=1 then 1+(out.length:Int) else 0,(byF L b 60).1,(qIy L (byF L b 60).2).1,(qIy L (byF L b 60).2).2.1⟩,nxA L (qIy L (byF L b 60).2).2.2):=rfl
  rw [qNp,hf1] at h2
  clear hf1
  generalize byF L b 60=p at hB hb1 hc hAc hb2 hO hb3 h2
  obtain ⟨con,b1⟩:=p
  simp only at hB hb1 hc hAc hb2 hO hb3 h2
  generalize qIy L b1=q at hAc hb2 hO hb3 h2
  obtain ⟨lev,rgt,b2⟩:=q
  simp only at hAc hb2 hO hb3 h2
  generalize nxV L b2 2=v at hO h2
  generalize nxA L b2=b3 at hO h2 hb3
  have hw1:IntKind.i64.wrap (256+((qAi out).length:Int))=256+(out.length:Int):=by rw [qAf (by omega)];omega
  have hw2:IntKind.i64.wrap (1+((qAi out).length:Int))=1+(out.length:Int):=by rw [qAf (by omega)];omega
  have hwm:IntKind.i64.wrap (((m+1:Nat):Int)-1)=(m:Int):=by rw [qAf (by omega)];omega
  have hdone:∀ s:Int,qAi (out++[⟨256+(out.length:Int),s,con,lev,rgt⟩])=qAi out++[[.int .i64 (256+(out.length:Int)),.int .i64 s,.sl 1 (qAe con),.int .i64 lev,.int .i64 rgt]]:=fun s=>by simp [qAi,qFm]
  refine ww ?_
  refine qAd (qAy rfl rfl (hB) [0] (by decide) rfl rfl rfl rfl rfl rfl rfl) rfl ?_
  refine ww ?_
  refine qAd (qAy rfl rfl (hAc) [0] (by decide) rfl rfl rfl rfl rfl rfl rfl) rfl ?_
  refine ww ?_
  refine qAd (qAy rfl rfl (hO) [0] (by decide) rfl rfl rfl rfl rfl rfl rfl) rfl ?_
  refine ww ?_
  refine qAb rfl (fun c1=>?_) (fun c1=>?_)
  ·have c1':v=1:=by simpa using c1
   rw [if_pos c1'] at h2
   refine ww ?_
   refine qAd (qAh (i:=1) hT rfl rfl rfl rfl rfl rfl (by show ((qAi out).length+1)*(56+1)≤_;omega)) rfl ?_
   refine ww ?_
   exact ⟨(b3,m,out++[⟨256+(out.length:Int),1+(out.length:Int),con,lev,rgt⟩]),[.row [.I (256+(out.length:Int)),.I (1+(out.length:Int)),.d (.sl 1 (qAe con)),.I lev,.I rgt]],⟨hb3,h2,by simp only [List.length_append,List.length_singleton];omega⟩,by simp only;omega,⟨.refl _,AV.le.eq (by rw [hdone,hw1,hw2];rfl),.int hwm,trivial⟩,
    ⟨ObLe.refl _,⟨rfl,by rw [hdone,hw1,hw2]⟩,by rw [hw1,hw2];exact ObLe.refl _,trivial⟩,Env.below_mono hE (by simp),rfl,rfl⟩
  ·have c1':¬ v=1:=by simpa using c1
   rw [if_neg c1'] at h2
   refine ww ?_
   refine qAd (qAh (i:=1) hT rfl rfl rfl rfl rfl rfl (by show ((qAi out).length+1)*(56+1)≤_;omega)) rfl ?_
   refine ww ?_
   exact ⟨(b3,m,out++[⟨256+(out.length:Int),0,con,lev,rgt⟩]),[.row [.I (256+(out.length:Int)),.I 0,.d (.sl 1 (qAe con)),.I lev,.I rgt]],⟨hb3,h2,by simp only [List.length_append,List.length_singleton];omega⟩,by simp only;omega,⟨.refl _,AV.le.eq (by rw [hdone,hw1];rfl),.int hwm,trivial⟩,
    ⟨ObLe.refl _,⟨rfl,by rw [hdone,hw1]⟩,by rw [hw1];exact ObLe.refl _,trivial⟩,Env.below_mono hE (by simp),rfl,rfl⟩
 ·have h5':m=0:=by simp at h5;omega
  subst h5'
  simp only [qNp] at h2
  subst h2
  refine ww ?_
  exact qEe ⟨rfl,rfl⟩ rfl (.refl _) rfl rfl rfl rfl
theorem qLu (L:List Int) (hL:L.length≤1000000) (a:Nat) (ha:a≤L.length) :
  Spec Tryz.prog 73 [.ptr 0 0] [.row (qAn L a)] (fun r h'=>r=.d (.sl 5 (qAi (qGp L a).1))∧h'=[.row (qAn L (qGp L a).2)]):=by
 have hN:=qAq L hL a ha 5 (by omega) (by omega)
 have hv:=nxV_range (L:=L) (a:=a) (n:=5) (by omega)
 have hA:=nxA_le ha
 unfold qGp
 generalize nxV L a 5=m at hN hv ⊢
 generalize nxA L a=a1 at hN hA ⊢
 obtain ⟨m,rfl⟩:∃ m':Nat,m=(m':Int):=⟨m.toNat,by omega⟩
 rw [Int.toNat_natCast]
 generalize hfin:qNp L m [] a1=fin
 refine qAa hT Tryz.func73 rfl rfl rfl rfl ?_;intro E hE
 refine ww ?_
 refine qAd (qAy rfl rfl (hN) [0] (by decide) rfl rfl rfl rfl rfl rfl rfl) rfl ?_
 refine ww ?_
 refine qAj (qBj 3 5 1 (es:=[]) (.inr ⟨rfl,rfl⟩) rfl ?_)
 refine qBr (ι:=Nat×Nat×List Fil) (fun x=>[(0,.ptr 0 0),(3,.sl 5 (qAi x.2.2) (.right 1)),(4,.I (x.2.1:Int))]) (fun x=>[.row (qAn L x.1),.right 5 (qAi x.2.2).length])
  (fun x=>x.1≤L.length∧qNp L x.2.1 x.2.2 x.1=fin∧x.2.2.length+x.2.1≤4) (fun x=>x.2.1) (a1,m,[]) ⟨hA,hfin,by simp;omega⟩ yf (HLe.refl _) ?_
 rintro ⟨b,m,out⟩ ⟨h1,h2,h3⟩
 simp only at h1 h2 h3 ⊢
 have hol:=encFils_length out
 refine ww ?_
 refine qAb rfl (fun h5=>?_) (fun h5=>?_)
 ·obtain ⟨m,rfl⟩:∃ m',m=m'+1:=⟨m-1,by simp at h5;omega⟩
  have hB:=qBw L hL b h1 60 (by omega)
  have hb1:=(byF_ok (n:=60) h1).2
  have hc:=(byF_ok (n:=60) h1).1
  have hAc:=qGm L hL _ hb1
  have hb2:=accF_ok hb1
  have hO:=qEi L hL _ hb2 2 (by omega) (by omega)
  have hb3:=nxA_le hb2
  have hf1:fil1 L b out.length=(⟨256+(out.length:Int),if nxV L (qIy L (byF L b 60).2).2.2 2=1 then 1+(out.length:Int) else 0,(byF L b 60).1,(qIy L (byF L b 60).2).1,(qIy L (byF L b 60).2).2.1⟩,nxA L (qIy L (byF L b 60).2).2.2):=rfl
  rw [qNp,hf1] at h2
  clear hf1
  generalize byF L b 60=p at hB hb1 hc hAc hb2 hO hb3 h2
  obtain ⟨con,b1⟩:=p
  simp only at hB hb1 hc hAc hb2 hO hb3 h2
  generalize qIy L b1=q at hAc hb2 hO hb3 h2
  obtain ⟨lev,rgt,b2⟩:=q
  simp only at hAc hb2 hO hb3 h2
  generalize nxV L b2 2=v at hO h2
  generalize nxA L b2=b3 at hO h2 hb3
  have hw1:IntKind.i64.wrap (256+((qAi out).length:Int))=256+(out.length:Int):=by rw [qAf (by omega)];omega
  have hw2:IntKind.i64.wrap (1+((qAi out).length:Int))=1+(out.length:Int):=by rw [qAf (by omega)];omega
  have hwm:IntKind.i64.wrap (((m+1:Nat):Int)-1)=(m:Int):=by rw [qAf (by omega)];omega
  have hdone:∀ s:Int,qAi (out++[⟨256+(out.length:Int),s,con,lev,rgt⟩])=qAi out++[[.int .i64 (256+(out.length:Int)),.int .i64 s,.sl 1 (qAe con),.int .i64 lev,.int .i64 rgt]]:=fun s=>by simp [qAi,qFm]
  refine ww ?_
  refine qAd (qAy rfl rfl (hB) [0] (by decide) rfl rfl rfl rfl rfl rfl rfl) rfl ?_
  refine ww ?_
  refine qAd (qAy rfl rfl (hAc) [0] (by decide) rfl rfl rfl rfl rfl rfl rfl) rfl ?_
  refine ww ?_
  refine qAd (qAy rfl rfl (hO) [0] (by decide) rfl rfl rfl rfl rfl rfl rfl) rfl ?_
  refine ww ?_
  refine qAb rfl (fun c1=>?_) (fun c1=>?_)
  ·have c1':v=1:=by simpa using c1
   rw [if_pos c1'] at h2
   refine ww ?_
   refine qAd (qAh (i:=1) hT rfl rfl rfl rfl rfl rfl (by show ((qAi out).length+1)*(56+1)≤_;omega)) rfl ?_
   refine ww ?_
   exact ⟨(b3,m,out++[⟨256+(out.length:Int),1+(out.length:Int),con,lev,rgt⟩]),[.row [.I (256+(out.length:Int)),.I (1+(out.length:Int)),.d (.sl 1 (qAe con)),.I lev,.I rgt]],⟨hb3,h2,by simp only [List.length_append,List.length_singleton];omega⟩,by simp only;omega,⟨.refl _,AV.le.eq (by rw [hdone,hw1,hw2];rfl),.int hwm,trivial⟩,
    ⟨ObLe.refl _,⟨rfl,by rw [hdone,hw1,hw2]⟩,by rw [hw1,hw2];exact ObLe.refl _,trivial⟩,Env.below_mono hE (by simp),rfl,rfl⟩
  ·have c1':¬ v=1:=by simpa using c1
   rw [if_neg c1'] at h2
   refine ww ?_
   refine qAd (qAh (i:=1) hT rfl rfl rfl rfl rfl rfl (by show ((qAi out).length+1)*(56+1)≤_;omega)) rfl ?_
   refine ww ?_
   exact ⟨(b3,m,out++[⟨256+(out.length:Int),0,con,lev,rgt⟩]),[.row [.I (256+(out.length:Int)),.I 0,.d (.sl 1 (qAe con)),.I lev,.I rgt]],⟨hb3,h2,by simp only [List.length_append,List.length_singleton];omega⟩,by simp only;omega,⟨.refl _,AV.le.eq (by rw [hdone,hw1];rfl),.int hwm,trivial⟩,
    ⟨ObLe.refl _,⟨rfl,by rw [hdone,hw1]⟩,by rw [hw1];exact ObLe.refl _,trivial⟩,Env.below_mono hE (by simp),rfl,rfl⟩
 ·have h5':m=0:=by simp at h5;omega
  subst h5'
  simp only [qNp] at h2
  subst h2
  refine ww ?_
  exact qEe ⟨rfl,rfl⟩ rfl .dat rfl rfl rfl rfl
theorem qMw (L:List Int) (hL:L.length≤1000000) (a:Nat) (ha:a≤L.length) :
  Spec Tryz.prog 39 [.ptr 0 0] [.row (qAn L a),.room] (fun r h'=>r=.agg [.sl 5 (qAi (qPo L a).1) (.right 1),.d (.sl 2 (qAp (qPo L a).2.1))]∧h'=[.row (qAn L (qPo L a).2.2),.right 5 (qAi (qPo L a).1).length]):=by
 have hF:=qLt L hL a ha
 have hb1:=(filF_ok ha).2.2
 unfold qPo
 generalize qGp L a=p at hF hb1 ⊢
 obtain ⟨root,a1⟩:=p
 simp only at hF hb1 ⊢
 have hN:=qAq L hL a1 hb1 3 (by omega) (by omega)
 have hv:=nxV_range (L:=L) (a:=a1) (n:=3) (by omega)
 have hA:=nxA_le hb1
 generalize nxV L a1 3=m at hN hv ⊢
 generalize nxA L a1=a2 at hN hA ⊢
 obtain ⟨m,rfl⟩:∃ m':Nat,m=(m':Int):=⟨m.toNat,by omega⟩
 rw [Int.toNat_natCast]
 generalize hfin:apG L m [] a2=fin
 generalize qAi root=R at hF ⊢
 refine qAa hT Tryz.func39 rfl rfl rfl rfl ?_;intro E hE
 refine qAj ?_
 refine ww ?_
 refine qAd (qBe (v:=.sl 5 R (.right 1)) (H':=[.row (qAn L a1),.right 5 R.length,.room,.row [.sl 5 [] .full,.sl 2 [] .full]]) rfl rfl hF [0,1] (by decide) rfl rfl rfl rfl rfl rfl rfl) rfl ?_
 refine ww ?_
 refine qAd (qAy rfl rfl (hN) [0] (by decide) rfl rfl rfl rfl rfl rfl rfl) rfl ?_
 refine ww ?_
 refine qFe 4 1 2 2 (es:=[]) rfl rfl rfl ?_
 refine qAt (ι:=Nat×Nat×List Apk) (fun x=>[(0,.ptr 0 0),(2,.ptr 3 0),(3,.ptr 4 0),(4,.I (x.2.1:Int))])
  (fun x=>[.row (qAn L x.1),.right 5 R.length,.right 2 (qAp x.2.2).length,.row [.sl 5 [] .full,.sl 2 [] .full],.row [.sl 5 R (.right 1),.sl 2 (qAp x.2.2) (.right 2)]])
  (fun x=>x.1≤L.length∧apG L x.2.1 x.2.2 x.1=fin∧x.2.2.length+x.2.1≤2) (fun x=>x.2.1) (a2,m,[]) ⟨hA,hfin,by simp;omega⟩ yf (HLe.refl _) ?_
 rintro ⟨b,m,out⟩ ⟨h1,h2,h3⟩
 simp only at h1 h2 h3 ⊢
 have hol:=encApks_length out
 refine ww ?_
 refine qAb rfl (fun h5=>?_) (fun h5=>?_)
 ·obtain ⟨m,rfl⟩:∃ m',m=m'+1:=⟨m-1,by simp at h5;omega⟩
  have hF2:=qLu L hL b h1
  have hb2:=(filF_ok h1).2.2
  rw [apG] at h2
  generalize qGp L b=p at hF2 hb2 h2
  obtain ⟨fs,b2⟩:=p
  simp only at hF2 hb2 h2
  have hwm:IntKind.i64.wrap (((m+1:Nat):Int)-1)=(m:Int):=by rw [qAf (by omega)];omega
  have hdone:qAp (out++[⟨[160,bOf ((m+1:Nat):Int)],fs⟩])=qAp out++[[.sl 1 [[.int .u8 160],[.int .u8 (IntKind.u8.wrap ((m+1:Nat):Int))]],.sl 5 (qAi fs)]]:=by
   have hb:qAe [160,bOf ((m+1:Nat):Int)]=[[.int .u8 160],[.int .u8 (IntKind.u8.wrap ((m+1:Nat):Int))]]:=by
    show [Dat.int .u8 160]::qAe [bOf ((m+1:Nat):Int)]=_
    rw [bOf_u8]
   simp only [qAp,List.map_append,List.map_cons,List.map_nil,qGh,hb]
  refine wwn ?_
  refine qBh (fun i=>bif Nat.beq i 1 then [4] else bif Nat.beq i 6 then [0] else bif Nat.beq i 9 then [2] else bif Nat.beq i 11 then [4] else []) (fun i=>bif Nat.beq i 6 then [0] else bif Nat.beq i 9 then [2] else bif Nat.beq i 11 then [4] else []) mixed (by kernel_rfl) ?_
  refine wwg ?_
  refine qAk (os:=[]) (fun k hk1 hk2=>buildSl_ok hT rfl rfl) rfl ?_
  refine wwg ?_
  refine qAk (v:=.d (.sl 5 (qAi fs))) (os:=[.row (qAn L b2)]) (fun k hk1 hk2=>qAy rfl rfl hF2 [0] (by decide) (by show [k[0]?]=[some _];rw [hk2 0 List.mem_cons_self];rfl) rfl rfl rfl rfl rfl rfl) rfl ?_
  refine wwg ?_
  refine qAk (os:=[]) (fun k hk1 hk2=>buildSl_ok hT rfl rfl) rfl ?_
  refine wwg ?_
  refine qAk (v:=.sl 2 (qAp (out++[⟨[160,bOf ((m+1:Nat):Int)],fs⟩])) (.right 2)) (os:=[.right 2 (qAp (out++[⟨[160,bOf ((m+1:Nat):Int)],fs⟩])).length]) (fun k hk1 hk2=>by rw [hdone];exact qAh (i:=2) hT rfl rfl rfl rfl ((hk2 2 List.mem_cons_self).trans rfl) rfl (by show ((qAp out).length+1)*(48+1)≤_;omega)) rfl ?_
  refine wwg ?_
  refine wwn ?_
  exact ⟨(b2,m,out++[⟨[160,bOf ((m+1:Nat):Int)],fs⟩]),⟨hb2,h2,by simp only [List.length_append,List.length_singleton];omega⟩,by simp only;omega,⟨.refl _,.refl _,.refl _,.int hwm,trivial⟩,HLe.refl _⟩
 ·have h5':m=0:=by simp at h5;omega
  subst h5'
  simp only [apG] at h2
  subst h2
  refine ww ?_
  exact qEe ⟨rfl,rfl⟩ rfl (AV.le.agg ⟨.refl _,.dat,trivial⟩) rfl rfl rfl rfl
def qMo {α:Type} (p:α→Bool) (l:List α):Int:=match l.findIdx? p with
 | some i=>i
 | none=>-1
theorem fIdx_at {α:Type} {p:α→Bool} {l:List α} {k:Nat} (hk:k < l.length) (h:p l[k]=true) (hb:∀ j,(hj:j < k)→(hj2:j < l.length)→p l[j]=false):qMo p l=k:=by
 unfold qMo
 have:l.findIdx? p=some k:=by
  rw [List.findIdx?_eq_some_iff_getElem]
  exact ⟨hk,h,fun j hj=>by simpa using hb j hj (by omega)⟩
 rw [this]
theorem fIdx_none {α:Type} {p:α→Bool} {l:List α} (hb:∀ j,(hj:j < l.length)→p l[j]=false):qMo p l = -1:=by
 unfold qMo
 have:l.findIdx? p=none:=by
  rw [List.findIdx?_eq_none_iff]
  intro x hx
  obtain ⟨j,hj,rfl⟩:=List.mem_iff_getElem.1 hx
  simpa using hb j hj
 rw [this]
theorem fIdx_any {α:Type} (p:α→Bool) (l:List α):decide (qMo p l≥0)=l.any p:=by
 unfold qMo
 split
 ·rename_i i h
  obtain ⟨h1,h2,_⟩:=List.findIdx?_eq_some_iff_getElem.1 h
  have:l.any p=true:=List.any_eq_true.2 ⟨_,List.getElem_mem h1,h2⟩
  rw [this];simp
 ·rename_i h
  rw [List.findIdx?_eq_none_iff] at h
  have:l.any p=false:=by rw [List.any_eq_false];intro x hx;simpa using h x hx
  rw [this];decide
theorem qMx (a b:List UInt8):Spec Tryz.prog 88 [.d (.sl 1 (qAe a)),.d (.sl 1 (qAe b))] [] (fun r h'=>r=.d (.bool (a == b))∧h'=[]):=by
 refine qAa hT Tryz.func88 rfl rfl rfl rfl ?_;intro E hE
 refine ww ?_
 refine qBa hT rfl rfl (byteCells_encB a) ?_
 refine ww ?_
 refine qBa hT rfl rfl (byteCells_encB b) ?_
 rw [bytesOf_encB,bytesOf_encB]
 refine ww ?_
 exact wwr
def PredFi (g:FuncId) (first cap:List AV) (H:List AObj) (p:Fil→Bool) (l:List Fil):Prop :=
 ∀ c,c∈l→Spec Tryz.prog g (first++([qOv c]++cap)) H (fun r h'=>r=.d (.bool (p c))∧h'=H)
theorem qGr {l:List Fil} {g:FuncId} {first cap:List AV} {H:List AObj} {p:Fil→Bool} (hp:PredFi g first cap H p l) (hH:qCu H.length H=true) (h1:qBy H.length first=true) (h2:qBy H.length cap=true) (hl:l.length≤1000000000) :
  Spec Tryz.prog 144 [.d (.sl 5 (qAi l)),.fn (.func g) first cap] H (fun r h'=>r=.I (qMo p l)∧h'=H):=by
 refine qAa hT Tryz.func144 rfl rfl rfl rfl ?_
 intro E hE
 have hlen:=encFils_length l
 refine ww ?_
 refine qAt (ι:=Nat) (fun k=>[(0,.d (.sl 5 (qAi l))),(1,.fn (.func g) first cap),(7,.d (.int .i64 (qAi l).length)),(8,.I k)]) (fun _=>H) (fun k=>k≤l.length∧∀ j,(hj:j < k)→(hj2:j < l.length)→p l[j]=false) (fun k=>l.length-k) 0
  ⟨by omega,fun j hj=>by omega⟩ yf (HLe.refl _) ?_
 intro k ⟨hk,hb⟩
 refine ww ?_
 refine qAb rfl (fun h1'=>?_) (fun h1'=>?_)
 ·have hlt:k < l.length:=by rw [hlen] at h1';simpa using h1'
  have hel:=encFils_at hlt
  have hpk:=hp l[k] (List.getElem_mem hlt)
  generalize hc:l[k]=c at hel hpk
  obtain ⟨c1,c2,c3,c4,c5⟩:=c
  unfold qFm at hel
  simp only at hel
  refine ww ?_
  refine qAd (qAc (indexAddr_ok hT rfl rfl rfl rfl (by omega) hel)) rfl ?_
  refine ww ?_
  refine qCl (qEn (Q:=fun r h'=>r=.d (.bool (p ⟨c1,c2,c3,c4,c5⟩))∧h'=H) rfl rfl (hpk.mono (fun r h' ⟨q1,q2⟩=>⟨⟨q1,q2⟩,by rw [q1];rfl,by rw [q2];exact hH⟩)) hH rfl ?_) rfl ?_
  ·have:∀ (a b:List AV),qBy H.length a=true→qBy H.length b=true→qBy H.length (a++b)=true:=by
    intro a
    induction a with
    | nil=>intro b _ hb;exact hb
    | cons x a ih=>intro b ha hb;simp only [qBy,Bool.and_eq_true,List.cons_append] at ha ⊢;exact ⟨ha.1,ih b ha.2 hb⟩
   exact this _ _ h1 (this [_] _ (by simp [qBy,low,qOv]) h2)
  rintro v h' ⟨rfl,rfl⟩
  refine ww ?_
  refine qAb rfl (fun h2'=>?_) (fun h2'=>?_)
  ·refine ww ?_
   refine qAx rfl (.refl _) (by simp) rfl rfl hH ⟨?_,rfl⟩
   show AV.d (.int .i64 (k:Int))=_
   rw [fIdx_at hlt (by rw [hc];exact h2') (fun j hj hj2=>hb j hj hj2)]
  ·refine ww ?_
   refine ⟨k+1,⟨by omega,fun j hj hj2=>?_⟩,by omega,⟨.refl _,.refl _,.refl _,AV.le.eq ?_,trivial⟩,HLe.refl _⟩
   ·by_cases hjk:j=k
    ·subst hjk;rw [hc];exact h2'
    ·exact hb j (by omega) hj2
   ·show AV.d (.int .i64 (IntKind.i64.wrap ((k:Int)+1)))=_
    rw [qAf (by omega)];rfl
 ·have hge:k=l.length:=by rw [hlen] at h1';simp at h1';omega
  refine ww ?_
  refine qAx rfl (.refl _) (by simp) rfl rfl hH ⟨?_,rfl⟩
  show AV.d (.int .i64 (-1))=_
  rw [fIdx_none (fun j hj=>hb j (by omega) hj)]
theorem qFb {l:List Fil} {g:FuncId} {first cap:List AV} {H:List AObj} {p:Fil→Bool} (hp:PredFi g first cap H p l) (hH:qCu H.length H=true) (h1:qBy H.length first=true) (h2:qBy H.length cap=true) (hl:l.length≤1000000000) :
  Spec Tryz.prog 117 [.d (.sl 5 (qAi l)),.fn (.func g) first cap] H (fun r h'=>r=.d (.bool (l.any p))∧h'=H):=by
 refine qAa hT Tryz.func117 rfl rfl rfl rfl ?_
 intro E hE
 have hs:=qGr hp hH h1 h2 hl
 refine ww ?_
 refine qCl (qEn (Q:=fun r h'=>r=.I (qMo p l)∧h'=H) rfl rfl (hs.mono (fun r h' ⟨q1,q2⟩=>⟨⟨q1,q2⟩,by rw [q1];rfl,by rw [q2];exact hH⟩)) hH rfl ?_) rfl ?_
 ·simp [qBy,low,h1,h2]
 rintro v h' ⟨rfl,rfl⟩
 refine ww ?_
 refine qAx rfl (.refl _) (by simp) rfl rfl hH ⟨?_,rfl⟩
 show AV.d (.bool (decide (qMo p l≥0)))=_
 rw [fIdx_any]
def PredAp (g:FuncId) (first cap:List AV) (H:List AObj) (p:Apk→Bool) (l:List Apk):Prop :=
 ∀ c,c∈l→Spec Tryz.prog g (first++([qPc c]++cap)) H (fun r h'=>r=.d (.bool (p c))∧h'=H)
theorem qGs {l:List Apk} {g:FuncId} {first cap:List AV} {H:List AObj} {p:Apk→Bool} (hp:PredAp g first cap H p l) (hH:qCu H.length H=true) (h1:qBy H.length first=true) (h2:qBy H.length cap=true) (hl:l.length≤1000000000) :
  Spec Tryz.prog 118 [.d (.sl 2 (qAp l)),.fn (.func g) first cap] H (fun r h'=>r=.I (qMo p l)∧h'=H):=by
 refine qAa hT Tryz.func118 rfl rfl rfl rfl ?_
 intro E hE
 have hlen:=encApks_length l
 refine ww ?_
 refine qAt (ι:=Nat) (fun k=>[(0,.d (.sl 2 (qAp l))),(1,.fn (.func g) first cap),(7,.d (.int .i64 (qAp l).length)),(8,.I k)]) (fun _=>H) (fun k=>k≤l.length∧∀ j,(hj:j < k)→(hj2:j < l.length)→p l[j]=false) (fun k=>l.length-k) 0
  ⟨by omega,fun j hj=>by omega⟩ yf (HLe.refl _) ?_
 intro k ⟨hk,hb⟩
 refine ww ?_
 refine qAb rfl (fun h1'=>?_) (fun h1'=>?_)
 ·have hlt:k < l.length:=by rw [hlen] at h1';simpa using h1'
  have hel:=encApks_at hlt
  have hpk:=hp l[k] (List.getElem_mem hlt)
  generalize hc:l[k]=c at hel hpk
  obtain ⟨c1,c2⟩:=c
  unfold qGh at hel
  simp only at hel
  refine ww ?_
  refine qAd (qAc (indexAddr_ok hT rfl rfl rfl rfl (by omega) hel)) rfl ?_
  refine ww ?_
  refine qCl (qEn (Q:=fun r h'=>r=.d (.bool (p ⟨c1,c2⟩))∧h'=H) rfl rfl (hpk.mono (fun r h' ⟨q1,q2⟩=>⟨⟨q1,q2⟩,by rw [q1];rfl,by rw [q2];exact hH⟩)) hH rfl ?_) rfl ?_
  ·have:∀ (a b:List AV),qBy H.length a=true→qBy H.length b=true→qBy H.length (a++b)=true:=by
    intro a
    induction a with
    | nil=>intro b _ hb;exact hb
    | cons x a ih=>intro b ha hb;simp only [qBy,Bool.and_eq_true,List.cons_append] at ha ⊢;exact ⟨ha.1,ih b ha.2 hb⟩
   exact this _ _ h1 (this [_] _ (by simp [qBy,low,qPc]) h2)
  rintro v h' ⟨rfl,rfl⟩
  refine ww ?_
  refine qAb rfl (fun h2'=>?_) (fun h2'=>?_)
  ·refine ww ?_
   refine qAx rfl (.refl _) (by simp) rfl rfl hH ⟨?_,rfl⟩
   show AV.d (.int .i64 (k:Int))=_
   rw [fIdx_at hlt (by rw [hc];exact h2') (fun j hj hj2=>hb j hj hj2)]
  ·refine ww ?_
   refine ⟨k+1,⟨by omega,fun j hj hj2=>?_⟩,by omega,⟨.refl _,.refl _,.refl _,AV.le.eq ?_,trivial⟩,HLe.refl _⟩
   ·by_cases hjk:j=k
    ·subst hjk;rw [hc];exact h2'
    ·exact hb j (by omega) hj2
   ·show AV.d (.int .i64 (IntKind.i64.wrap ((k:Int)+1)))=_
    rw [qAf (by omega)];rfl
 ·have hge:k=l.length:=by rw [hlen] at h1';simp at h1';omega
  refine ww ?_
  refine qAx rfl (.refl _) (by simp) rfl rfl hH ⟨?_,rfl⟩
  show AV.d (.int .i64 (-1))=_
  rw [fIdx_none (fun j hj=>hb j (by omega) hj)]
theorem qFc {l:List Apk} {g:FuncId} {first cap:List AV} {H:List AObj} {p:Apk→Bool} (hp:PredAp g first cap H p l) (hH:qCu H.length H=true) (h1:qBy H.length first=true) (h2:qBy H.length cap=true) (hl:l.length≤1000000000) :
  Spec Tryz.prog 86 [.d (.sl 2 (qAp l)),.fn (.func g) first cap] H (fun r h'=>r=.d (.bool (l.any p))∧h'=H):=by
 refine qAa hT Tryz.func86 rfl rfl rfl rfl ?_
 intro E hE
 have hs:=qGs hp hH h1 h2 hl
 refine ww ?_
 refine qCl (qEn (Q:=fun r h'=>r=.I (qMo p l)∧h'=H) rfl rfl (hs.mono (fun r h' ⟨q1,q2⟩=>⟨⟨q1,q2⟩,by rw [q1];rfl,by rw [q2];exact hH⟩)) hH rfl ?_) rfl ?_
 ·simp [qBy,low,h1,h2]
 rintro v h' ⟨rfl,rfl⟩
 refine ww ?_
 refine qAx rfl (.refl _) (by simp) rfl rfl hH ⟨?_,rfl⟩
 show AV.d (.bool (decide (qMo p l≥0)))=_
 rw [fIdx_any]
def qGy (f:Fil):List AV:=[.d (.int .i64 f.id),.d (.int .i64 f.sho),.d (.sl 1 (qAe f.con)),.d (.int .i64 f.lev),.d (.int .i64 f.rgt)]
def qHb (a:Apk):List AV:=[.d (.sl 1 (qAe a.name)),.d (.sl 5 (qAi a.files))]
theorem qOg (f g:Fil):Spec Tryz.prog 116 ([]++([qOv g]++[.ptr 0 0])) [.row (qGy f)] (fun r h'=>r=.d (.bool (qHh f g))∧h'=[.row (qGy f)]):=by
 obtain ⟨f1,f2,f3,f4,f5⟩:=f
 obtain ⟨g1,g2,g3,g4,g5⟩:=g
 unfold qOv qGy qHh
 simp only
 refine qAa hT Tryz.func116 rfl rfl rfl rfl ?_;intro E hE
 refine qAj ?_
 refine wwe ?_
 refine qAl (qAg ?_)
 refine qAd (boxAt_ok (i0:=1) rfl rfl rfl) rfl ?_
 refine ww ?_
 exact qAx rfl (.refl _) rfl rfl rfl rfl ⟨rfl,rfl⟩
theorem sameName_spec (a b:Apk):Spec Tryz.prog 87 ([]++([qPc b]++[.ptr 0 0])) [.row (qHb a)] (fun r h'=>r=.d (.bool (a.name == b.name))∧h'=[.row (qHb a)]):=by
 have hq:=qMx a.name b.name
 generalize (a.name == b.name)=q at hq ⊢
 obtain ⟨a1,a2⟩:=a
 obtain ⟨b1,b2⟩:=b
 unfold qPc qHb
 simp only at hq ⊢
 refine qAa hT Tryz.func87 rfl rfl rfl rfl ?_;intro E hE
 refine qAj ?_
 refine wwe ?_
 refine qAl (qAg ?_)
 refine qAd (boxAt_ok (i0:=1) rfl rfl rfl) rfl ?_
 refine ww ?_
 refine wwc hq ?_
 refine ww ?_
 exact qAx rfl (.refl _) rfl rfl rfl rfl ⟨rfl,rfl⟩
theorem chkFil_spec (l:List Fil) (hl:l.length≤9223372036854775807):Spec Tryz.prog 85 [.d (.sl 5 (qAi l))] [] (fun r h'=>r=.I (qGj l)∧h'=[]):=by
 have hll:=encFils_length l
 unfold qGj
 by_cases h1:l.length > 24
 case pos =>
  rw [if_pos h1]
  refine qAa hT Tryz.func85 rfl rfl rfl rfl ?_;intro E hE
  refine ww ?_
  refine qAb rfl (fun c1=>?_) (fun c1=>?_)
  ·refine ww ?_
   exact wwr
  ·exfalso
   rw [hll] at c1
   simp at c1
   omega
 rw [if_neg h1]
 generalize hfin:qOq [] l=fin
 refine qAa hT Tryz.func85 rfl rfl rfl rfl ?_;intro E hE
 refine ww ?_
 refine qAb rfl (fun c1=>?_) (fun c1=>?_)
 ·exfalso
  rw [hll] at c1
  simp at c1
  omega
 refine ww ?_
 refine qBr (ι:=Nat) (fun i=>[(0,.d (.sl 5 (qAi l))),(10,.d (.sl 5 (qAi l))),(11,.I ((qAi l).length:Int)),(12,.I (i:Int))]) (fun _=>[])
  (fun i=>i≤l.length∧qOq (l.take i) (l.drop i)=fin) (fun i=>l.length-i) 0 ⟨by omega,by simpa using hfin⟩ yf (HLe.refl _) ?_
 rintro i ⟨hi,hg⟩
 have hwr:IntKind.i64.wrap ((i:Int)+1)=((i+1:Nat):Int):=by rw [qAf (by omega)];simp
 refine ww ?_
 refine qAb rfl (fun c2=>?_) (fun c2=>?_)
 ·have c2':i < l.length:=by rw [hll] at c2;simpa using c2
  have hel:=encFils_at c2'
  have hdr:l.drop i=l[i]::l.drop (i+1):=List.drop_eq_getElem_cons c2'
  have htk:l.take (i+1)=l.take i++[l[i]]:=List.take_succ_eq_append_getElem c2'
  have hcf:=qFb (p:=qHh l[i]) (l:=l.take i) (fun y hy=>qOg l[i] y) rfl rfl rfl (by rw [List.length_take];omega)
  rw [hdr,qOq] at hg
  have hcl:(qAi l).take ((i:Int)).toNat=qAi (l.take i):=by
   rw [Int.toNat_natCast]
   simp [qAi,List.map_take]
  generalize (l.take i).any (qHh l[i])=b2 at hcf hg
  generalize l[i]=x at hel hg htk hcf
  obtain ⟨x1,x2,x3,x4,x5⟩:=x
  have hxl:=encB_length x3
  unfold qFm at hel
  unfold qGy at hcf
  simp only at hel hg hcf
  refine ww ?_
  refine wwi hel ?_
  refine wws ?_
  refine qAl (qAg ?_)
  refine wws ?_
  refine qFy (ι:=Unit) (fun _=>[(0,.d (.sl 5 (qAi l))),(3,.I (i:Int)),(4,.ptr 0 0),(5,.I (if x4=3 then 15 else 0)),(10,.d (.sl 5 (qAi l))),(11,.I ((qAi l).length:Int)),(12,.I (i:Int))])
   (fun _=>[.row [.I x1,.I x2,.d (.sl 1 (qAe x3)),.I x4,.I x5]]) (fun _=>True) ?_ ?_
  ·refine ww ?_
   refine qAb rfl (fun c3=>?_) (fun c3=>?_)
   ·refine ww ?_
    exact ⟨(),trivial,⟨.refl _,.refl _,.refl _,.int (by rw [if_pos (by simpa using c3)]),.refl _,.refl _,.refl _,trivial⟩,HLe.refl _⟩
   ·refine ww ?_
    exact ⟨(),trivial,⟨.refl _,.refl _,.refl _,.int (by rw [if_neg (by simpa using c3)]),.refl _,.refl _,.refl _,trivial⟩,HLe.refl _⟩
  rintro ⟨⟩ -
  generalize (if x4=3 then (15:Int) else 0)=R at hg ⊢
  refine ww ?_
  refine qAb rfl (fun c3=>?_) (fun c3=>?_)
  ·refine ww ?_
   refine qAb rfl (fun c4=>?_) (fun c4=>?_)
   ·rw [if_pos (by simp at c3;omega)] at hg
    subst hg
    refine ww ?_
    exact wwr
   ·rw [c3] at c4;cases c4
  refine ww ?_
  refine qAb rfl (fun c4=>?_) (fun c4=>?_)
  ·rw [if_pos (by simp at c4;omega)] at hg
   subst hg
   refine ww ?_
   exact wwr
  rw [if_neg (by simp at c3 c4;omega)] at hg
  refine ww ?_
  refine qAb rfl (fun c5=>?_) (fun c5=>?_)
  ·refine ww ?_
   refine qAb rfl (fun c6=>?_) (fun c6=>?_)
   ·rw [if_pos (by simp at c5;omega)] at hg
    subst hg
    refine ww ?_
    exact wwr
   ·rw [c5] at c6;cases c6
  refine ww ?_
  refine qAb rfl (fun c6=>?_) (fun c6=>?_)
  ·rw [if_pos (by simp at c6;omega)] at hg
   subst hg
   refine ww ?_
   exact wwr
  rw [if_neg (by simp at c5 c6;omega)] at hg
  refine ww ?_
  refine qAb rfl (fun c7=>?_) (fun c7=>?_)
  ·rw [hxl] at c7
   rw [if_pos (by simp at c7;omega)] at hg
   subst hg
   refine ww ?_
   exact wwr
  rw [hxl] at c7
  rw [if_neg (by simp at c7;omega)] at hg
  refine ww ?_
  rw [hcl]
  refine qAd (qAy rfl rfl (hcf) [0] (by decide) rfl rfl rfl rfl rfl rfl rfl) rfl ?_
  refine ww ?_
  refine qAb rfl (fun c8=>?_) (fun c8=>?_)
  ·rw [if_pos c8] at hg
   subst hg
   refine ww ?_
   exact wwr
  rw [if_neg (by rw [c8];simp)] at hg
  refine ww ?_
  exact ⟨i+1,[_],⟨c2',by rw [htk];exact hg⟩,by omega,⟨.refl _,.refl _,.refl _,.int hwr,trivial⟩,HLe.refl _,Env.below_mono hE (by simp),rfl,rfl⟩
 ·have c2':i=l.length:=by rw [hll] at c2;simp at c2;omega
  subst c2'
  rw [List.drop_length,qOq] at hg
  subst hg
  refine ww ?_
  exact wwr
theorem validFs_spec (root:List Fil) (apps:List Apk) (hl:root.length≤9223372036854775807) (ha:apps.length≤9223372036854775807) (hf:∀ a,a∈apps→a.files.length≤9223372036854775807):Spec Tryz.prog 46 [.agg [.d (.sl 5 (qAi root)),.d (.sl 2 (qAp apps))]] [] (fun r h'=>r=.I (qHc root apps)∧h'=[]):=by
 have hll:=encApks_length apps
 have hck:=chkFil_spec root hl
 unfold qHc
 generalize hfin:qOr [] apps=fin
 refine qAa hT Tryz.func46 rfl rfl rfl rfl ?_;intro E hE
 refine ww ?_
 refine qAb rfl (fun c1=>?_) (fun c1=>?_)
 ·rw [hll] at c1
  rw [if_pos (by simp at c1;omega)]
  refine ww ?_
  exact wwr
 rw [hll] at c1
 rw [if_neg (by simp at c1;omega)]
 have hsm:apps.length≤4:=by simp at c1;omega
 generalize qGj root=e at hck ⊢
 refine ww ?_
 refine wwc hck ?_
 refine ww ?_
 refine qAb rfl (fun c2=>?_) (fun c2=>?_)
 ·rw [if_pos (by simpa using c2)]
  refine ww ?_
  exact wwr
 rw [if_neg (by simpa using c2)]
 refine ww ?_
 refine qBr (ι:=Nat) (fun i=>[(1,.ptr 0 0),(18,.d (.sl 2 (qAp apps))),(19,.I ((qAp apps).length:Int)),(20,.I (i:Int))]) (fun _=>[.row [.d (.sl 5 (qAi root)),.d (.sl 2 (qAp apps))]])
  (fun i=>i≤apps.length∧qOr (apps.take i) (apps.drop i)=fin) (fun i=>apps.length-i) 0 ⟨by omega,by simpa using hfin⟩ yf (HLe.refl _) ?_
 rintro i ⟨hi,hg⟩
 have hwr:IntKind.i64.wrap ((i:Int)+1)=((i+1:Nat):Int):=by rw [qAf (by omega)];simp
 refine ww ?_
 refine qAb rfl (fun c3=>?_) (fun c3=>?_)
 ·have c3':i < apps.length:=by rw [hll] at c3;simpa using c3
  have hel:=encApks_at c3'
  have hdr:apps.drop i=apps[i]::apps.drop (i+1):=List.drop_eq_getElem_cons c3'
  have htk:apps.take (i+1)=apps.take i++[apps[i]]:=List.take_succ_eq_append_getElem c3'
  have hcf:=qFc (p:=fun b=>apps[i].name == b.name) (l:=apps.take i) (fun y hy=>sameName_spec apps[i] y) rfl rfl rfl (by rw [List.length_take];omega)
  have hcs:=chkFil_spec apps[i].files (hf _ (List.getElem_mem c3'))
  rw [hdr,qOr] at hg
  have hcl:(qAp apps).take ((i:Int)).toNat=qAp (apps.take i):=by
   rw [Int.toNat_natCast]
   simp [qAp,List.map_take]
  generalize ((apps.take i).any fun b=>apps[i].name == b.name)=b2 at hcf hg
  generalize apps[i]=x at hel hg htk hcf hcs
  obtain ⟨x1,x2⟩:=x
  have hxl:=encB_length x1
  unfold qGh at hel
  unfold qHb at hcf
  simp only at hel hg hcf hcs
  generalize qGj x2=ex at hcs hg
  refine ww ?_
  refine wwi hel ?_
  refine ww ?_
  refine qAb rfl (fun c4=>?_) (fun c4=>?_)
  ·rw [hxl] at c4
   rw [if_pos (by simp at c4;omega)] at hg
   subst hg
   refine ww ?_
   exact wwr
  rw [hxl] at c4
  rw [if_neg (by simp at c4;omega)] at hg
  refine ww ?_
  rw [hcl]
  refine ww ?_
  refine qAd (qAy rfl rfl (hcf) [1] (by decide) rfl rfl rfl rfl rfl rfl rfl) rfl ?_
  refine ww ?_
  refine qAb rfl (fun c5=>?_) (fun c5=>?_)
  ·rw [if_pos c5] at hg
   subst hg
   refine ww ?_
   exact wwr
  rw [if_neg (by rw [c5];simp)] at hg
  refine ww ?_
  refine wwc hcs ?_
  refine ww ?_
  refine qAb rfl (fun c6=>?_) (fun c6=>?_)
  ·rw [if_pos (by simpa using c6)] at hg
   subst hg
   refine ww ?_
   exact wwr
  rw [if_neg (by simpa using c6)] at hg
  refine ww ?_
  exact ⟨i+1,[_],⟨c3',by rw [htk];exact hg⟩,by omega,⟨.refl _,.refl _,.refl _,.int hwr,trivial⟩,HLe.refl _,Env.below_mono hE (by simp),rfl,rfl⟩
 ·have c3':i=apps.length:=by rw [hll] at c3;simp at c3;omega
  subst c3'
  rw [List.drop_length,qOr] at hg
  subst hg
  refine ww ?_
  exact wwr
end Tdoc
