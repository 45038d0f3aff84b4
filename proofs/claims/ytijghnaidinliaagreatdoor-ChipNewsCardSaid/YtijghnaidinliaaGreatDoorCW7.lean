/- Part 7 of the proof: the texts ZD ZR ZE ZP ZQ ZU Y9 XA XL XM XN XO XP J7 J8 J9 JD JE JF JG JH JI KS HM HN HO HP P1 P2 P3 P4 P5 P6 P7 XB XC XD XE XF XG XH XI XJ XQ. -/
import Derived.Test.YtijghnaidinliaaGreatDoorCW6
import Derived.Test.YtijghnaidinliaaGreatDoorCW5
set_option maxHeartbeats 8000000
set_option maxRecDepth 100000
set_option linter.unusedVariables false
set_option linter.unusedSimpArgs false
namespace Tdoc
open Go Go.Proofs
def qNq (l:List Inf) (i:Nat):Option Inf:=if i=0 then none else l[i-1]?
theorem validIW_spec (l:List Inf) (hl:l.length≤9223372036854775807):Spec Tryz.prog 50 [.d (.sl 5 (qAt l))] [] (fun r h'=>r=.I (validI l)∧h'=[]):=by
 have hll:=encFs_length l
 unfold validI
 refine qAb hT Tryz.func50 rfl rfl rfl rfl ?_;intro E hE
 refine ww ?_
 refine qAa rfl (fun c1=>?_) (fun c1=>?_)
 ·have c1':l.length > 16:=by rw [hll] at c1;simp at c1;omega
  rw [if_pos c1']
  refine ww ?_
  exact wwr
 have c1':¬ l.length > 16:=by rw [hll] at c1;simp at c1;omega
 rw [if_neg c1']
 generalize hfin:qSj none l=e
 refine ww ?_
 refine qBq (ι:=Nat) (fun i=>[(0,.d (.sl 5 (qAt l))),(3,.I (i:Int))]) (fun _=>[]) (fun i=>i≤l.length∧qSj (qNq l i) (l.drop i)=e) (fun i=>l.length-i) 0 ⟨by omega,by simpa [qNq] using hfin⟩ yf (HLe.refl _) ?_
 rintro i ⟨hi,hg⟩
 have hwr:IntKind.i64.wrap ((i:Int)+1)=((i+1:Nat):Int):=by rw [qAj (by omega)];simp
 refine ww ?_
 refine qAa rfl (fun c2=>?_) (fun c2=>?_)
 ·have c2':i < l.length:=by rw [hll] at c2;simpa using c2
  have hel:=encFs_at c2'
  have hdr:l.drop i=l[i]::l.drop (i+1):=List.drop_eq_getElem_cons c2'
  have hnx:qNq l (i+1)=some l[i]:=by unfold qNq;simp [c2']
  have hidx:∃ q:Inf,((i:Int) > 0→0≤IntKind.i64.wrap ((i:Int)-1)∧(qAt l)[(IntKind.i64.wrap ((i:Int)-1)).toNat]?=some (qTz q))∧((i:Int) > 0→qNq l i=some q)∧(¬ (i:Int) > 0→qNq l i=none):=by
   cases i with
   | zero=>exact ⟨l[0],fun h=>absurd h (by simp),fun h=>absurd h (by simp),fun _=>rfl⟩
   | succ j =>
    have hj:IntKind.i64.wrap (((j+1:Nat):Int)-1)=(j:Int):=by rw [qAj (by omega)];omega
    refine ⟨l[j],fun _=>⟨by rw [hj];omega,by rw [hj];exact encFs_at (by omega)⟩,fun _=>?_,fun h=>absurd (by omega) h⟩
    unfold qNq;simp
  obtain ⟨q,hq1,hq2,hq3⟩:=hidx
  rw [hdr,infL_cons] at hg
  have hEl:=qEt (l[i]).key
  generalize l[i]=x at hel hg hnx hEl
  obtain ⟨p,ver,par,key,kid⟩:=x
  obtain ⟨qp,qv,qa,qk,qi⟩:=q
  unfold qTz at hel hq1
  unfold infE at hg
  simp only at hel hq1 hg hEl
  generalize qCz key=el at hEl hg
  refine ww ?_
  refine wwi hel ?_
  refine ww ?_
  refine qAa rfl (fun c3=>?_) (fun c3=>?_)
  ·have c3':p < 2∨p > 6:=by simpa using c3
   rw [if_pos c3',if_pos (by simp)] at hg
   subst hg
   refine ww ?_
   exact wwr
  have c3':¬ (p < 2∨p > 6):=by simp only [Bool.or_eq_false_iff,decide_eq_false_iff_not] at c3;omega
  rw [if_neg c3'] at hg
  refine wwe ?_
  refine qAl (qAh ?_)
  refine wws ?_
  refine qEj (ι:=Unit) (fun _=>[(0,.d (.sl 5 (qAt l))),(3,.I (i:Int)),(4,.ptr 0 0),(5,.I (qUh p)),(6,.I 0)]) (fun _=>[.row [.I p,.I ver,.I par,.I key,.I kid]]) (fun _=>True) ?_ ?_
  ·refine ww ?_
   refine qAa rfl (fun k1=>?_) (fun k1=>?_)
   ·have k1':p=2∨p=3:=by simpa using k1
    refine ww ?_
    exact ⟨(),trivial,⟨.refl _,.refl _,.refl _,.int (by unfold qUh;rw [if_pos k1']),.refl _,trivial⟩,HLe.refl _⟩
   ·have k1':¬ (p=2∨p=3):=by rintro (g | g) <;> simp [g] at k1
    refine ww ?_
    exact ⟨(),trivial,⟨.refl _,.refl _,.refl _,.int (by unfold qUh;rw [if_neg k1']),.refl _,trivial⟩,HLe.refl _⟩
  rintro _ _
  refine qEj (ι:=Unit) (fun _=>[(0,.d (.sl 5 (qAt l))),(3,.I (i:Int)),(4,.ptr 0 0),(5,.I (qUh p)),(6,.I (qVt p))]) (fun _=>[.row [.I p,.I ver,.I par,.I key,.I kid]]) (fun _=>True) ?_ ?_
  ·refine ww ?_
   refine qAa rfl (fun k1=>?_) (fun k1=>?_)
   ·have k1':p=4:=by simpa using k1
    refine ww ?_
    exact ⟨(),trivial,⟨.refl _,.refl _,.refl _,.refl _,.int (by unfold qVt;rw [if_pos k1']),trivial⟩,HLe.refl _⟩
   ·have k1':¬ p=4:=by simpa using k1
    refine ww ?_
    exact ⟨(),trivial,⟨.refl _,.refl _,.refl _,.refl _,.int (by unfold qVt;rw [if_neg k1']),trivial⟩,HLe.refl _⟩
  rintro _ _
  generalize qUh p=pp at hg ⊢
  generalize qVt p=kp at hg ⊢
  refine ww ?_
  refine qAa rfl (fun c4=>?_) (fun c4=>?_)
  ·have c4':ver < 1∨ver > 255∨par < 0∨par > pp∨kid < 0∨kid > kp:=by simpa [or_assoc] using c4
   rw [if_pos c4',if_pos (by simp)] at hg
   subst hg
   refine ww ?_
   exact wwr
  have c4':¬ (ver < 1∨ver > 255∨par < 0∨par > pp∨kid < 0∨kid > kp):=by simp only [Bool.or_eq_false_iff,decide_eq_false_iff_not] at c4;omega
  rw [if_neg c4'] at hg
  refine ww ?_
  refine wwgc hEl ?_
  refine ww ?_
  refine qAa rfl (fun c5=>?_) (fun c5=>?_)
  ·have c5':(p=4∧el=false)∨(p≠4∧key≠0):=by simpa using c5
   rw [if_pos c5',if_pos (by simp)] at hg
   subst hg
   refine ww ?_
   exact wwr
  have c5':¬ ((p=4∧el=false)∨(p≠4∧key≠0)):=by
   rintro (⟨g1,g2⟩ | ⟨g1,g2⟩)
   ·simp [g1,g2] at c5
   ·simp [g1,g2] at c5
  rw [if_neg c5',if_neg (by simp)] at hg
  refine ww ?_
  refine qCw (v:=.iptr [.int .i64 qp,.int .i64 qv,.int .i64 qa,.int .i64 qk,.int .i64 qi]) rfl rfl rfl rfl (fun hg=>⟨(sg (C:=True) hg).1,qAd (indexAddr_ok hT rfl rfl rfl rfl (hq1 (by simp [gval] at hg;omega)).1 (hq1 (by simp [gval] at hg;omega)).2)⟩) ?_
  refine ww ?_
  refine qCw (v:=.iptr [.int .i64 qp,.int .i64 qv,.int .i64 qa,.int .i64 qk,.int .i64 qi]) rfl rfl rfl rfl (fun hg=>⟨(sg (C:=True) hg).1,qAd (indexAddr_ok hT rfl rfl rfl rfl (hq1 (by simp [gval] at hg;omega)).1 (hq1 (by simp [gval] at hg;omega)).2)⟩) ?_
  refine ww ?_
  refine qCw (v:=.iptr [.int .i64 qp,.int .i64 qv,.int .i64 qa,.int .i64 qk,.int .i64 qi]) rfl rfl rfl rfl (fun hg=>⟨(sg (C:=True) hg).1,qAd (indexAddr_ok hT rfl rfl rfl rfl (hq1 (by simp [gval] at hg;omega)).1 (hq1 (by simp [gval] at hg;omega)).2)⟩) ?_
  refine ww ?_
  refine qAa rfl (fun c6=>?_) (fun c6=>?_)
  ·have c6':(i:Int) > 0∧(p < qp∨(p=qp∧kid≤qi)):=by
    simp only [Bool.and_eq_true,Bool.or_eq_true,decide_eq_true_eq,beq_iff_eq] at c6
    exact c6
   rw [hq2 c6'.1] at hg
   simp only at hg
   rw [if_pos (by unfold qVx;exact decide_eq_true c6'.2)] at hg
   subst hg
   refine ww ?_
   exact wwr
  ·have hg':qSj (some ⟨p,ver,par,key,kid⟩) (l.drop (i+1))=e:=by
    by_cases hi0:(i:Int) > 0
    ·rw [hq2 hi0] at hg
     simp only at hg
     rw [if_neg (by
      unfold qVx
      intro hh
      have hh:=of_decide_eq_true hh
      simp only at hh
      have:(decide ((i:Int) > 0)&&(decide (p < qp)||(p == qp&&decide (kid≤qi))))=true:=by
       simp only [Bool.and_eq_true,Bool.or_eq_true,decide_eq_true_eq,beq_iff_eq]
       exact ⟨hi0,hh⟩
      exact absurd (c6.symm.trans this) (by simp))] at hg
     exact hg
    ·rw [hq3 hi0] at hg
     simpa using hg
   refine ww ?_
   exact ⟨i+1,[.row [.I p,.I ver,.I par,.I key,.I kid]],⟨by omega,by rw [hnx];exact hg'⟩,by omega,⟨.refl _,.int hwr,trivial⟩,HLe.refl _,hE,rfl,rfl⟩
 ·have c2':i=l.length:=by rw [hll] at c2;simp at c2;omega
  subst c2'
  rw [List.drop_length,infL_nil] at hg
  subst hg
  refine ww ?_
  exact wwr
theorem qSz {a b:List UInt8} (hl:a.length=b.length) (h:∀ i,i < a.length→qDs a i=qDs b i):a=b:=by
 apply List.ext_getElem hl
 intro i h1 h2
 have:=h i h1
 unfold qDs at this
 rw [List.getD_eq_getElem?_getD,List.getD_eq_getElem?_getD,List.getElem?_eq_getElem h1,List.getElem?_eq_getElem h2] at this
 exact UInt8.toNat_inj.1 this
theorem qQq (a b:List UInt8) (ha:a.length≤1000000000) (hb:b.length≤1000000000):Spec Tryz.prog 15 [.d (.sl 1 (qAg a)),.d (.sl 1 (qAg b))] [] (fun r h'=>r=.d (.bool (decide (a=b)))∧h'=[]):=by
 have hal:=encB_length a
 have hbl:=encB_length b
 refine qAb hT Tryz.func15 rfl rfl rfl rfl ?_;intro E hE
 refine ww ?_
 refine qAa rfl (fun c1=>?_) (fun c1=>?_)
 ·have c1':a.length≠b.length:=by rw [hal,hbl] at c1;simp at c1;omega
  rw [decide_eq_false (fun h=>c1' (by rw [h]))]
  refine ww ?_
  exact wwr
 have c1':a.length=b.length:=by rw [hal,hbl] at c1;simp at c1;omega
 refine ww ?_
 refine qAw (ι:=Nat) (fun i=>[(0,.d (.sl 1 (qAg a))),(1,.d (.sl 1 (qAg b))),(5,.I (i:Int))]) (fun _=>[]) (fun i=>i≤a.length∧∀ j,j < i→qDs a j=qDs b j) (fun i=>a.length-i) 0 ⟨by omega,fun j h=>by omega⟩ yf (HLe.refl _) ?_
 rintro i ⟨hi,hs⟩
 have hwr:IntKind.i64.wrap ((i:Int)+1)=((i+1:Nat):Int):=by rw [qAj (by omega)];simp
 refine ww ?_
 refine qAa rfl (fun c2=>?_) (fun c2=>?_)
 ·have c2':i < a.length:=by rw [hal] at c2;simpa using c2
  have hel:(qAg a)[((i:Int)).toNat]?=some [.int .u8 (qDs a i:Int)]:=encB_byte c2'
  have hel2:(qAg b)[((i:Int)).toNat]?=some [.int .u8 (qDs b i:Int)]:=encB_byte (by omega)
  refine ww ?_
  refine wwi hel ?_
  refine ww ?_
  refine wwi hel2 ?_
  refine ww ?_
  refine qAa rfl (fun c3=>?_) (fun c3=>?_)
  ·have c3':qDs a i≠qDs b i:=by simp at c3;omega
   rw [decide_eq_false (fun h=>c3' (by rw [h]))]
   refine ww ?_
   exact wwr
  ·have c3':qDs a i=qDs b i:=by simp at c3;omega
   refine ww ?_
   exact ⟨i+1,⟨by omega,fun j hj=>by
    rcases Nat.lt_or_ge j i with h | h
    ·exact hs j h
    ·rw [show j=i by omega];exact c3'⟩,by omega,⟨.refl _,.refl _,.int hwr,trivial⟩,HLe.refl _⟩
 ·have c2':i=a.length:=by rw [hal] at c2;simp at c2;omega
  subst c2'
  rw [decide_eq_true (qSz c1' hs)]
  refine ww ?_
  exact wwr
def qQc (v:List UInt8):Int×Int:=if v.length≠4 then (0,2) else if qCz ((nbN v:Nat):Int)=false then (0,10) else (((nbN v:Nat):Int),0)
end Tdoc
namespace Tdoc
open Go
open Go Go.Proofs
def qUn (v:List UInt8):Int×Int:=if 7 < v.length then (0,2) else (((nbN v:Nat):Int),0)
theorem qDu (v:List UInt8) (hv:v.length≤1000000):Spec Tryz.prog 112 [.d (.sl 1 (qAg v))] [] (fun r h'=>r=.tup [.d (.int .i64 (qUn v).1),.d (.int .i64 (qUn v).2)]∧h'=[]):=by
 have hl:=encB_length v
 unfold qUn
 by_cases h7:7 < v.length
 ·rw [if_pos h7]
  refine qAb hT Tryz.func112 rfl rfl rfl rfl ?_;intro E hE
  refine ww ?_
  refine qAa rfl (fun c1=>?_) (fun c1=>?_)
  ·refine ww ?_
   exact wwr
  ·exfalso;rw [hl] at c1;simp at c1;omega
 rw [if_neg h7]
 refine qAb hT Tryz.func112 rfl rfl rfl rfl ?_;intro E hE
 refine ww ?_
 refine qAa rfl (fun c1=>?_) (fun c1=>?_)
 ·exfalso;rw [hl] at c1;simp at c1;omega
 refine ww ?_
 refine qAw (ι:=Nat) (fun i=>[(0,.d (.sl 1 (qAg v))),(4,.I ((nbN (v.take i):Nat):Int)),(10,.d (.sl 1 (qAg v))),(11,.I ((qAg v).length:Int)),(12,.I (i:Int))]) (fun _=>[]) (fun i=>i≤v.length) (fun i=>v.length-i) 0 (by omega) yf (HLe.refl _) ?_
 intro i hi
 have hwr:IntKind.i64.wrap ((i:Int)+1)=((i+1:Nat):Int):=by rw [qAj (by omega)];simp
 refine ww ?_
 refine qAa rfl (fun c2=>?_) (fun c2=>?_)
 ·have c2':i < v.length:=by rw [hl] at c2;simpa using c2
  have hel:(qAg v)[((i:Int)).toNat]?=some [.int .u8 (v[i].toNat:Int)]:=by simp [qAg,c2']
  have htk:nbN (v.take (i+1))=256*nbN (v.take i)+v[i].toNat:=by rw [List.take_succ_eq_append_getElem c2',nbN_snoc]
  have hlt:nbN (v.take i) < 256 ^ 6:=Nat.lt_of_lt_of_le (nbN_lt _) (Nat.pow_le_pow_right (by omega) (by rw [List.length_take];omega))
  have h6:(256:Nat) ^ 6=281474976710656:=by decide
  rw [h6] at hlt
  have hc:=UInt8.toNat_lt v[i]
  generalize v[i]=c at hel htk hc
  generalize nbN (v.take i)=n at htk hlt
  have hb8:IntKind.i64.wrap (c.toNat:Int)=(c.toNat:Int):=qAj (by omega)
  have hs8:IntKind.i64.wrap ((n:Int)*2 ^ (min (Int.toNat 8) IntKind.i64.bits))=((n*2 ^ 8:Nat):Int):=by
   rw [show min (Int.toNat 8) IntKind.i64.bits=8 from rfl,qAj (by omega)];omega
  have hw1:IntKind.i64.wrap ((BitVec.ofInt IntKind.i64.bits (IntKind.i64.wrap ((n:Int)*2 ^ (min (Int.toNat 8) IntKind.i64.bits))) ||| BitVec.ofInt IntKind.i64.bits (IntKind.i64.wrap (c.toNat:Int))).toNat:Int)=((nbN (v.take (i+1)):Nat):Int):=by
   rw [hb8,hs8,qXq (by omega) (by omega),qXp n c.toNat 8 (by omega),htk];congr 1;omega
  refine ww ?_
  refine wwi hel ?_
  refine ww ?_
  exact ⟨i+1,by omega,by omega,⟨.refl _,.int hw1,.refl _,.refl _,.int hwr,trivial⟩,HLe.refl _⟩
 ·have c2':i=v.length:=by rw [hl] at c2;simp at c2;omega
  subst c2'
  rw [List.take_length]
  refine ww ?_
  exact wwr
theorem qTl (v:List UInt8) (hv:v.length≤1000000):Spec Tryz.prog 70 [.d (.sl 1 (qAg v))] [] (fun r h'=>r=.tup [.d (.int .i64 (qQc v).1),.d (.int .i64 (qQc v).2)]∧h'=[]):=by
 have hl:=encB_length v
 unfold qQc
 by_cases h4:v.length=4
 case neg =>
  rw [if_pos h4]
  refine qAb hT Tryz.func70 rfl rfl rfl rfl ?_;intro E hE
  refine ww ?_
  refine qAa rfl (fun c1=>?_) (fun c1=>?_)
  ·refine ww ?_
   exact wwr
  ·exfalso;rw [hl] at c1;simp at c1;omega
 rw [if_neg (by omega)]
 have hN:=qDu v (by omega)
 unfold qUn at hN
 rw [if_neg (by omega)] at hN
 have hEl:=qDv ((nbN v:Nat):Int)
 generalize qCz ((nbN v:Nat):Int)=el at hEl
 refine qAb hT Tryz.func70 rfl rfl rfl rfl ?_;intro E hE
 refine ww ?_
 refine qAa rfl (fun c1=>?_) (fun c1=>?_)
 ·exfalso;rw [hl,h4] at c1;simp at c1
 refine ww ?_
 refine wwc hN ?_
 refine ww ?_
 refine wwc hEl ?_
 refine ww ?_
 refine qAa rfl (fun c2=>?_) (fun c2=>?_)
 ·have hn:el=false:=by simpa using c2
  rw [if_pos hn]
  refine ww ?_
  exact wwr
 have hn:¬ el=false:=by simpa using c2
 rw [if_neg hn]
 refine ww ?_
 exact wwr
theorem qQb (p:Int):Spec Tryz.prog 119 [.I p] [] (fun r h'=>r=.d (.bool (decide (p≥2)&&decide (p≤6)))∧h'=[]):=by
 refine qAb hT Tryz.func119 rfl rfl rfl rfl ?_;intro E hE
 refine ww ?_
 exact wwr
theorem qNt (p:Int):Spec Tryz.prog 121 [.I p] [] (fun r h'=>r=.d (.bool (p == 2||p == 3))∧h'=[]):=by
 refine qAb hT Tryz.func121 rfl rfl rfl rfl ?_;intro E hE
 refine ww ?_
 exact wwr
theorem qLz (b:Bool) (n:Int):Spec Tryz.prog 120 [.d (.bool b),.I n] [] (fun r h'=>r=.I (if b=true then n else 0)∧h'=[]):=by
 refine qAb hT Tryz.func120 rfl rfl rfl rfl ?_;intro E hE
 refine ww ?_
 refine qAa rfl (fun c1=>?_) (fun c1=>?_)
 ·rw [if_pos c1]
  refine ww ?_
  exact wwr
 ·rw [if_neg (by rw [c1];simp)]
  refine ww ?_
  exact wwr
theorem checkI_spec (x:Inf):Spec Tryz.prog 89 [.agg (qSs x)] [] (fun r h'=>r=.I (infE x)∧h'=[]):=by
 obtain ⟨p,v,a,k,d⟩:=x
 have hK:=qQb p
 have hM:=qNt p
 have hm1:=qLz (p == 2||p == 3) 31
 have hm2:=qLz (p == 4) 255
 have hE2:=qDv k
 have e1:(if (p == 2||p == 3)=true then (31:Int) else 0)=qUh p:=by unfold qUh;simp
 have e2:(if (p == 4)=true then (255:Int) else 0)=qVt p:=by unfold qVt;simp
 rw [e1] at hm1
 rw [e2] at hm2
 unfold infE qSs
 simp only
 generalize qCz k=el at hE2
 generalize qUh p=pm at hm1
 generalize qVt p=km at hm2
 refine qAb hT Tryz.func89 rfl rfl rfl rfl ?_;intro E hE
 refine qAi ?_
 refine wwe ?_
 refine qAl (qAh ?_)
 refine qAe (boxAt_ok (i0:=0) rfl rfl rfl) rfl ?_
 refine ww ?_
 refine wwc hK ?_
 refine ww ?_
 refine qAa rfl (fun c1=>?_) (fun c1=>?_)
 ·have c1':p < 2∨p > 6:=by simp at c1;omega
  rw [if_pos c1']
  refine ww ?_
  exact wwr
 have c1':¬ (p < 2∨p > 6):=by simp at c1;omega
 rw [if_neg c1']
 refine ww ?_
 refine qAa rfl (fun c2=>?_) (fun c2=>?_)
 ·have c2':v < 1∨v > 255∨a < 0∨a > pm∨d < 0∨d > km:=by simp only [Bool.or_eq_true,decide_eq_true_eq] at c2;omega
  rw [if_pos c2']
  refine ww ?_
  exact wwr
 simp only [Bool.or_eq_false_iff,decide_eq_false_iff_not] at c2
 refine ww ?_
 refine wwgc hM ?_
 refine ww ?_
 refine wwgc hm1 ?_
 refine ww ?_
 refine qAa rfl (fun c3=>?_) (fun c3=>?_)
 ·have c3':v < 1∨v > 255∨a < 0∨a > pm∨d < 0∨d > km:=by simp only [Bool.or_eq_true,decide_eq_true_eq] at c3;omega
  rw [if_pos c3']
  refine ww ?_
  exact wwr
 simp only [Bool.or_eq_false_iff,decide_eq_false_iff_not] at c3
 refine ww ?_
 refine wwgc hm2 ?_
 refine ww ?_
 refine qAa rfl (fun c4=>?_) (fun c4=>?_)
 ·have c4':v < 1∨v > 255∨a < 0∨a > pm∨d < 0∨d > km:=by simp only [Bool.or_eq_true,decide_eq_true_eq] at c4;omega
  rw [if_pos c4']
  refine ww ?_
  exact wwr
 simp only [Bool.or_eq_false_iff,decide_eq_false_iff_not] at c4
 rw [if_neg (by omega)]
 refine ww ?_
 refine wwgc hE2 ?_
 refine ww ?_
 have hc:((p == 4&&!el)||(!(p == 4)&&k != 0))=decide ((p=4∧el=false)∨(p≠4∧k≠0)):=by
  by_cases h4:p=4 <;> cases el <;> by_cases hk:k=0 <;> simp [h4,hk]
 refine qAa rfl (fun c5=>?_) (fun c5=>?_)
 ·have c5':(p=4∧el=false)∨(p≠4∧k≠0):=by rw [hc] at c5;simpa using c5
  rw [if_pos c5']
  refine ww ?_
  exact wwr
 have c5':¬ ((p=4∧el=false)∨(p≠4∧k≠0)):=by rw [hc] at c5;exact of_decide_eq_false c5
 rw [if_neg c5']
 refine wwe ?_
 refine ww ?_
 exact wwr
def qSx (a b:Int):Int:=if a < b then -1 else if a > b then 1 else 0
def orI (a b:Int):Int:=if a≠0 then a else b
theorem orI_infO (p x:Inf):decide (orI (qSx p.proto x.proto) (qSx p.kid x.kid)≥0)=qVx p x:=by
 unfold orI qSx qVx
 rw [Bool.eq_iff_iff]
 simp only [decide_eq_true_eq]
 split <;> split <;> (try split) <;> (try split) <;> (try split) <;> omega
theorem isNaN_spec (a:Int):Spec Tryz.prog 122 [.I a] [] (fun r h'=>r=.d (.bool false)∧h'=[]):=by
 have h:(a != a)=false:=by simp
 refine qAb hT Tryz.func122 rfl rfl rfl rfl ?_;intro E hE
 refine ww ?_
 rw [h]
 exact wwr
theorem qHi (a b:Int):Spec Tryz.prog 91 [.I a,.I b] [] (fun r h'=>r=.I (qSx a b)∧h'=[]):=by
 have h1:=isNaN_spec a
 have h2:=isNaN_spec b
 unfold qSx
 refine qAb hT Tryz.func91 rfl rfl rfl rfl ?_;intro E hE
 refine ww ?_
 refine wwc h1 ?_
 refine ww ?_
 refine wwc h2 ?_
 refine ww ?_
 refine qAa rfl (fun c1=>?_) (fun c1=>?_)
 ·exact absurd c1 (by simp)
 refine ww ?_
 refine qAa rfl (fun c2=>?_) (fun c2=>?_)
 ·exact absurd c2 (by simp)
 refine ww ?_
 refine qAa rfl (fun c3=>?_) (fun c3=>?_)
 ·rw [if_pos (by simpa using c3)]
  refine ww ?_
  exact wwr
 rw [if_neg (by simpa using c3)]
 refine ww ?_
 refine qAa rfl (fun c4=>?_) (fun c4=>?_)
 ·rw [if_pos (by simpa using c4)]
  refine ww ?_
  exact wwr
 rw [if_neg (by simpa using c4)]
 refine ww ?_
 exact wwr
theorem qWy (a b:Int):Spec Tryz.prog 90 [.d (.sl 1 (qNf [a,b]))] [] (fun r h'=>r=.I (orI a b)∧h'=[]):=by
 unfold orI
 generalize hfin:(if a≠0 then a else b)=fin
 have hlen:(qNf [a,b]).length=2:=rfl
 refine qAb hT Tryz.func90 rfl rfl rfl rfl ?_;intro E hE
 refine ww ?_
 refine qAw (ι:=Nat) (fun i=>[(3,.I 0),(6,.d (.sl 1 (qNf [a,b]))),(7,.I ((qNf [a,b]).length:Int)),(8,.I (i:Int))]) (fun _=>[]) (fun i=>i≤2∧(1≤i→a=0)∧(2≤i→b=0)) (fun i=>2-i) 0 (by omega) yf (HLe.refl _) ?_
 rintro i ⟨hi,ha,hb⟩
 have hwr:IntKind.i64.wrap ((i:Int)+1)=((i+1:Nat):Int):=by rw [qAj (by omega)];omega
 refine ww ?_
 refine qAa rfl (fun c1=>?_) (fun c1=>?_)
 ·have hlt:i < 2:=by rw [hlen] at c1;simp at c1;omega
  have hel:=encI_at (l:=[a,b]) (i:=i) hlt
  have hv:i=0∧([a,b]:List Int)[i]=a∨i=1∧([a,b]:List Int)[i]=b:=by
   match i,hlt with
   | 0,_=>exact .inl ⟨rfl,rfl⟩
   | 1,_=>exact .inr ⟨rfl,rfl⟩
  generalize ([a,b]:List Int)[i]=c at hel hv
  refine ww ?_
  refine wwi hel ?_
  refine ww ?_
  refine qAa rfl (fun c2=>?_) (fun c2=>?_)
  ·have hc:c=fin:=by
    have:c≠0:=by simpa using c2
    rw [← hfin]
    rcases hv with ⟨h0,h1⟩ | ⟨h0,h1⟩
    ·rw [if_pos (by omega)];exact h1
    ·rw [if_neg (by have:=ha (by omega);omega)];exact h1
   subst hc
   refine ww ?_
   exact wwr
  have hc:c=0:=by simpa using c2
  refine ww ?_
  exact ⟨i+1,⟨by omega,by omega,by omega⟩,by omega,⟨.refl _,.refl _,.refl _,.int hwr,trivial⟩,HLe.refl _⟩
 ·have hge:i=2:=by rw [hlen] at c1;simp at c1;omega
  have h0:fin=0:=by rw [← hfin];have:=ha (by omega);have:=hb (by omega);split <;> omega
  subst h0
  refine ww ?_
  exact wwr
def qNp (l:List Inf) (i:Nat):Option Inf:=if i=0 then none else l[i-1]?
theorem qMq (l:List Inf) (hl:l.length≤9223372036854775807):Spec Tryz.prog 47 [.d (.sl 5 (qAt l))] [] (fun r h'=>r=.I (validI l)∧h'=[]):=by
 have hll:=encFs_length l
 unfold validI
 by_cases h1:l.length > 16
 case pos =>
  rw [if_pos h1]
  refine qAb hT Tryz.func47 rfl rfl rfl rfl ?_;intro E hE
  refine ww ?_
  refine qAa rfl (fun c1=>?_) (fun c1=>?_)
  ·refine ww ?_
   exact wwr
  ·exfalso
   rw [hll] at c1
   simp at c1
   omega
 rw [if_neg h1]
 generalize hfin:qSj none l=fin
 refine qAb hT Tryz.func47 rfl rfl rfl rfl ?_;intro E hE
 refine ww ?_
 refine qAa rfl (fun c1=>?_) (fun c1=>?_)
 ·exfalso
  rw [hll] at c1
  simp at c1
  omega
 refine ww ?_
 refine qBq (ι:=Nat) (fun i=>[(0,.d (.sl 5 (qAt l))),(9,.d (.sl 5 (qAt l))),(10,.I ((qAt l).length:Int)),(11,.I (i:Int))]) (fun _=>[])
  (fun i=>i≤l.length∧qSj (qNp l i) (l.drop i)=fin) (fun i=>l.length-i) 0 ⟨by omega,by simpa [qNp] using hfin⟩ yf (HLe.refl _) ?_
 rintro i ⟨hi,hg⟩
 have hwr:IntKind.i64.wrap ((i:Int)+1)=((i+1:Nat):Int):=by rw [qAj (by omega)];simp
 refine ww ?_
 refine qAa rfl (fun c2=>?_) (fun c2=>?_)
 ·have c2':i < l.length:=by rw [hll] at c2;simpa using c2
  have hel:=encFs_at c2'
  have hdr:l.drop i=l[i]::l.drop (i+1):=List.drop_eq_getElem_cons c2'
  have hpv:qNp l (i+1)=some l[i]:=by unfold qNp;simp [c2']
  rw [hdr,infL_cons] at hg
  have hC:=checkI_spec l[i]
  generalize l[i]=x at hel hC hpv hg
  generalize he:infE x=ve at hC hg
  obtain ⟨x1,x2,x3,x4,x5⟩:=x
  unfold qSs at hC
  unfold qTz at hel
  simp only at hC hel
  by_cases h0:i=0
  ·subst h0
   have hn:decide (((0:Nat):Int) > 0)=false:=rfl
   refine ww ?_
   refine wwi hel ?_
   refine ww ?_
   refine wwc hC ?_
   refine ww ?_
   refine qAa rfl (fun c3=>?_) (fun c3=>?_)
   ·rw [if_pos (by simpa using c3)] at hg
    subst hg
    refine ww ?_
    exact wwr
   rw [if_neg (by simpa using c3)] at hg
   refine wwk hn ?_
   refine qAa rfl (fun c4=>?_) (fun c4=>?_)
   ·exact absurd c4 (by simp)
   simp only [qNp,if_true] at hg
   rw [if_neg (by simp)] at hg
   refine ww ?_
   exact ⟨0+1,[_],⟨c2',by rw [hpv];exact hg⟩,by omega,⟨.refl _,.refl _,.refl _,.int hwr,trivial⟩,HLe.refl _,Env.below_mono hE (by simp),rfl,rfl⟩
  ·have hlt:i-1 < l.length:=by omega
   have help:(qAt l)[(IntKind.i64.wrap ((i:Int)-1)).toNat]?=some (qTz l[i-1]):=by
    rw [qAj (by omega),show (i:Int)-1=((i-1:Nat):Int) by omega];exact encFs_at hlt
   have hp:qNp l i=some l[i-1]:=by unfold qNp;rw [if_neg h0];simp [hlt]
   have hn:decide ((i:Int) > 0)=true:=by simp;omega
   have hwi:IntKind.i64.wrap ((i:Int)-1)=(i:Int)-1:=qAj (by omega)
   rw [hp] at hg
   have hg:(if ve≠0 then ve else if qVx l[i-1] ⟨x1,x2,x3,x4,x5⟩=true then 17 else qSj (some ⟨x1,x2,x3,x4,x5⟩) (l.drop (i+1)))=fin:=hg
   have hio:=orI_infO l[i-1] ⟨x1,x2,x3,x4,x5⟩
   generalize qVx l[i-1] ⟨x1,x2,x3,x4,x5⟩=io at hg hio
   generalize l[i-1]=p at help hio
   obtain ⟨p1,p2,p3,p4,p5⟩:=p
   simp only at hio
   unfold qTz at help
   simp only at help
   have hc1:=qHi p1 x1
   have hc2:=qHi p5 x5
   have hor:=qWy (qSx p1 x1) (qSx p5 x5)
   generalize orI (qSx p1 x1) (qSx p5 x5)=ov at hor hio
   subst hio
   refine ww ?_
   refine wwi hel ?_
   refine ww ?_
   refine wwc hC ?_
   refine ww ?_
   refine qAa rfl (fun c3=>?_) (fun c3=>?_)
   ·rw [if_pos (by simpa using c3)] at hg
    subst hg
    refine ww ?_
    exact wwr
   rw [if_neg (by simpa using c3)] at hg
   refine ww ?_
   refine wwgi help ?_
   refine ww ?_
   refine wwgc hc1 ?_
   refine ww ?_
   refine wwgi help ?_
   refine ww ?_
   refine wwgc hc2 ?_
   refine ww ?_
   refine qCw rfl rfl rfl rfl (fun hg=>⟨(sg (C:=True) hg).1,qKt (args:=[.sl 1 [[Dat.int .i64 (qSx p1 x1)],[Dat.int .i64 (qSx p5 x5)]] .full]) rfl rfl hor rfl (by exact ⟨AV.le.dat,trivial⟩) rfl rfl⟩) ?_
   refine ww ?_
   refine qAa rfl (fun c4=>?_) (fun c4=>?_)
   ·have hov:decide (ov≥0)=true:=by rw [hn] at c4;simpa using c4
    rw [if_pos hov] at hg
    subst hg
    refine ww ?_
    exact wwr
   have hov:¬ decide (ov≥0)=true:=by rw [hn] at c4;simpa using c4
   rw [if_neg hov] at hg
   refine ww ?_
   exact ⟨i+1,[_],⟨c2',by rw [hpv];exact hg⟩,by omega,⟨.refl _,.refl _,.refl _,.int hwr,trivial⟩,HLe.refl _,Env.below_mono hE (by simp),rfl,rfl⟩
 ·have c2':i=l.length:=by rw [hll] at c2;simp at c2;omega
  subst c2'
  rw [List.drop_length,infL_nil] at hg
  subst hg
  refine ww ?_
  exact wwr
def qEy (n:Nat) (es:List (List Dat)):Nat:=(es.length+(n-1)) / n
def qMl (n:Nat) (es:List (List Dat)) (k:Nat):AV:=.d (.sl 1 ((es.drop (k*n)).take n))
def qEo (n:Nat) (es:List (List Dat)):List AV:=(List.range (qEy n es)).map (qMl n es)
theorem qPc {n:Nat} {es:List (List Dat)} {k:Nat} (hn:1≤n):k < qEy n es↔k*n < es.length:=by
 unfold qEy
 rw [← Nat.succ_le_iff,Nat.le_div_iff_mul_le (by omega),Nat.succ_mul]
 omega
theorem qNz (i j n:Nat) (es:List (List Dat)) (hn:1≤n∧n≤1000000000) (hl:es.length≤1000000000) :
  SeqOk Tryz.prog 259 [.ptr i 0,.ptr j 0] (fun h=>h[i]?=some (.row [.d (.sl 1 es)])∧h[j]?=some (.row [.I (n:Int)])) (qEo n es):=by
 refine qOd Tryz.func259 rfl rfl rfl rfl ?_
 intro E l Hs hok hY
 have hlen:(qEo n es).length=qEy n es:=by simp [qEo]
 rw [hlen]
 refine qGw (qEk (.inl rfl) rfl ?_)
 refine wws ?_
 refine qJe (qTw (ι:=Nat) (fun k=>[(0,.fn (.yield l) [] []),(1,.ptr i 0),(2,.ptr j 0),(4,.I ((k*n:Nat):Int))]) (fun k=>Hs k) (fun k=>k≤qEy n es) (fun k=>qEy n es-k) 0 (Nat.zero_le _) ⟨.refl _,.refl _,.refl _,AV.le.int (by simp),trivial⟩ (HLe.refl _) ?_)
 intro k hk
 obtain ⟨h1,h2⟩:=hok k
 have hlt:=qPc (n:=n) (es:=es) (k:=k) hn.1
 have hkn:k*n≤es.length+n:=by
  by_cases h0:k=0
  ·subst h0;simp
  ·have:(k-1)*n < es.length:=(qPc hn.1).1 (by omega)
   have h3:k*n=(k-1)*n+n:=by rw [← Nat.succ_mul];congr 1;omega
   omega
 refine qGw (qGw (qEk (.inl rfl) rfl ?_))
 refine wws ?_
 refine qAe (qCo hT rfl rfl h1 rfl rfl rfl) rfl ?_
 refine wws ?_
 refine qNd rfl (fun c1=>?_) (fun c1=>?_)
 ·have c1':k*n < es.length:=Int.ofNat_lt.1 (of_decide_eq_true c1)
  have hk':=hlt.2 c1'
  have hy:=hY k (qMl n es k) (by simp [qEo,hk'])
  refine qPl ?_
  refine qGw (qJe (qGw ?_))
  refine qTx (.inl rfl) (fun _=>List.range (Hs k).length) (fun _=>[]) mixed rfl (by kernel_rfl) ?_
  refine qBh (qCo hT rfl rfl h2 rfl rfl rfl) rfl rfl ?_
  refine qBh (qCo hT rfl rfl h1 rfl rfl rfl) rfl rfl ?_
  refine wws ?_
  refine qBh (qAd (qWk (t2:=#[]) rfl rfl rfl)) rfl rfl ?_
  refine wws ?_
  have hmn:(if (((es.drop (k*n)).length:Nat):Int) < (n:Int) then (((es.drop (k*n)).length:Nat):Int) else (n:Int))=((min n (es.length-k*n):Nat):Int):=by
   rw [List.length_drop];split <;> omega
  have htk:(es.drop (k*n)).take (k*n+min n (es.length-k*n)-k*n)=(es.drop (k*n)).take n:=by
   rw [Nat.add_sub_cancel_left]
   rcases Nat.le_total n (es.length-k*n) with h | h
   ·rw [Nat.min_eq_left h]
   ·rw [Nat.min_eq_right h,List.take_of_length_le (by simp),List.take_of_length_le (by simp;omega)]
  refine qPk (l:=[(0,.fn (.yield l) [] []),(1,.ptr i 0),(2,.ptr j 0),(4,.I ((k*n:Nat):Int)),(5,.I ((min n (es.length-k*n):Nat):Int))]) (h':=Hs k) ⟨.refl _,.refl _,.refl _,.refl _,AV.le.int hmn,trivial⟩ (HLe.refl _) ?_
  refine qGw (qJd (.inl rfl) ?_)
  have hadd:IntKind.i64.wrap (((k*n:Nat):Int)+((min n (es.length-k*n):Nat):Int))=((k*n+min n (es.length-k*n):Nat):Int):=by rw [qAj (by omega)];omega
  refine qLf (.inl rfl) (pre:=[_,_,_,_,_,_,_,_,_,_]) _ _ rfl ?_
  refine wws ?_
  refine qAe (qCo hT rfl rfl h1 rfl rfl rfl) rfl ?_
  refine wws ?_
  refine qAe (qAd (qWr (l:=k*n) (r:=k*n+min n (es.length-k*n)) hT rfl rfl rfl rfl (by exact congrArg (fun z=>AV.d (.int .i64 z)) hadd) (by exact congrArg (fun z=>AV.d (.int .i64 z)) hadd) (by omega) rfl)) rfl ?_
  rw [htk]
  refine wws ?_
  refine qXc (qUb rfl rfl rfl hy) rfl ?_
  refine qPh (.inl rfl) _ _ _ rfl ?_
  refine wws ?_
  refine qNd rfl (fun c2=>?_) (fun c2=>?_)
  ·exact absurd c2 (by simp)
  refine qPl ?_
  refine qEk (.inl rfl) rfl ?_
  refine wws ?_
  obtain ⟨h1',h2'⟩:=hok (k+1)
  refine qAe (qCo hT rfl rfl h2' rfl rfl rfl) rfl ?_
  refine wws ?_
  exact ⟨k+1,hk',by omega,⟨.refl _,.refl _,.refl _,AV.le.int (by rw [qAj (by omega),Nat.succ_mul];omega),trivial⟩,HLe.refl _⟩
 ·have c1':¬ k*n < es.length:=fun h=>(of_decide_eq_false c1) (Int.ofNat_lt.2 h)
  have hk':k=qEy n es:=by
   have:¬ k < qEy n es:=fun h=>c1' (hlt.1 h)
   omega
  subst hk'
  exact qVn ⟨.inl rfl,rfl⟩
theorem qRf (es:List (List Dat)) (n:Nat) (hn:1≤n∧n≤1000000000):Spec Tryz.prog 206 [.d (.sl 1 es),.I (n:Int)] [.room,.room]
  (fun r h'=>r=.fn (.func 259) [] [.ptr 0 0,.ptr 1 0]∧h'=[.row [.d (.sl 1 es)],.row [.I (n:Int)]]):=by
 refine qAb hT Tryz.func206 rfl rfl rfl rfl ?_;intro E hE
 refine qAl (qAh ?_)
 refine qAe (boxAt_ok (i0:=0) rfl rfl rfl) rfl ?_
 refine qAe (boxAt_ok (i0:=1) rfl rfl rfl) rfl ?_
 refine ww ?_
 refine qAa rfl (fun c1=>?_) (fun c1=>?_)
 ·exact absurd c1 (by simp;omega)
 refine ww ?_
 exact wwr
theorem sumTo_succ (b:List UInt8) (n:Nat):qLp b (n+1)=qQl (qLp b n) (((qPw b).drop (64*n)).take 64):=rfl
def qUj (v:Vw) (i:Nat):List UInt8:=(((vwL v).take i).map qDn).flatten
theorem outN_succ (v:Vw) {i:Nat} (h:i < 8):qUj v (i+1)=qUj v i++qDn ((vwL v).getD i 0):=by
 have hl:(vwL v).length=8:=rfl
 unfold qUj
 rw [List.take_add_one,List.map_append,List.flatten_append]
 simp [hl,h]
theorem outN_length (v:Vw):∀ i,i≤8→(qUj v i).length=4*i
 | 0,_=>rfl
 | i+1,h=>by rw [outN_succ v (by omega),List.length_append,outN_length v i (by omega)];rfl
theorem outN_all (v:Vw):qUj v 8=qXh v:=(outW_eq v).symm
theorem qVf (b:List UInt8) (hb:b.length≤900000):Spec Tryz.prog 226 [.d (.sl 1 (qAg b))] [] (fun r h'=>r=.d (.sl 1 (qAg (qPo b)))∧h'=[]):=by
 have hpl:=padW_length b
 have hpad:=qVh b hb
 have hsum:=sumW_to b
 have hsucc:=sumTo_succ b
 have hz:qJh (qLp b 0)=qJh qOm:=rfl
 generalize qPo b=fin at hsum
 subst hsum
 generalize qLp b=sf at hsucc hz
 generalize qPw b=p at hpl hpad hsucc
 obtain ⟨kk,hkk⟩:∃ kk,p.length / 64=kk:=⟨_,rfl⟩
 rw [hkk]
 have hel:=encB_length p
 have hcn:qEy 64 (qAg p)=kk:=by unfold qEy;rw [hel];omega
 have hck:=qRf (qAg p) 64 (by omega)
 have hsq:=qNz 1 2 64 (qAg p) (by omega) (by omega)
 have hxl:(qEo 64 (qAg p)).length=kk:=by simp [qEo,hcn]
 obtain ⟨Hs,hHs⟩:∃ Hs:Nat→List AObj,Hs=fun k=>[.row [.d (.sl 1 (qJh (sf k)))],.row [.d (.sl 1 (qAg p))],.row [.I (64:Nat)]]:=⟨_,rfl⟩
 refine qKx hT Tryz.func226 rfl rfl rfl rfl ?_
 intro E hE
 refine qOi ?_
 refine ww ?_
 refine qOi ?_
 refine ww ?_
 refine wwc qPq ?_
 refine ww ?_
 refine qVm (Qx:=fun e τ' h'=>e=.normal∧SubL τ' [(3,.ptr 0 0)]∧h'=Hs kk) (qOi ?_) ?_ ?_
 ·refine qAi (qAi ?_)
  refine ww ?_
  refine wwc hpad ?_
  refine ww ?_
  refine qAe (qBn rfl rfl hck [1,2] (by decide) rfl rfl rfl rfl rfl rfl rfl) rfl ?_
  refine ww ?_
  refine qPg (l:=[(11,.fn (.func 259) [] [.ptr 1 0,.ptr 2 0]),(3,.ptr 0 0)]) (h':=Hs 0) yf (by rw [hHs];exact ⟨ObLe.row (by rw [hz]),ObLe.refl _,ObLe.refl _,trivial⟩) ?_
  refine qTq (qRh Hs rfl hsq rfl (fun k=>by rw [hHs];exact ⟨rfl,rfl⟩) rfl (fun k=>by rw [hHs];rfl) (fun k=>by rw [hHs];rfl)
   (fun x=>look ((4,x)::(12,x)::[(11,.fn (.func 259) [] [.ptr 1 0,.ptr 2 0]),(3,.ptr 0 0)])) ?_ ?_ ?_)
  ·rintro k x hx E' l
   have hx':x=qMl 64 (qAg p) k:=by
    have hlt:k < qEy 64 (qAg p):=by have:=(List.getElem?_eq_some_iff.1 hx).1;simpa [qEo] using this
    simp [qEo,hlt] at hx
    exact hx.symm
   subst hx'
   refine qEk (.inr ⟨l,rfl⟩) rfl ?_
   show AWk _ _ _ _ _ _ (look ((12,qMl 64 (qAg p) k)::[(11,.fn (.func 259) [] [.ptr 1 0,.ptr 2 0]),(3,.ptr 0 0)])) _
   refine wws ?_
   exact ⟨rfl,rfl,rfl⟩
  ·rintro k x hx E' l hE'
   have hlt:k < kk:=by have:=(List.getElem?_eq_some_iff.1 hx).1;omega
   have hx':x=.d (.sl 1 (qAg ((p.drop (64*k)).take 64))):=by
    have hlt:k < qEy 64 (qAg p):=by omega
    simp [qEo,hlt] at hx
    rw [← hx]
    unfold qMl qAg
    rw [List.map_take,List.map_drop,Nat.mul_comm]
   subst hx'
   have hcp:=qLc (sf k) ((p.drop (64*k)).take 64) (by rw [List.length_take,List.length_drop];omega)
   rw [← hsucc k] at hcp
   refine qPk (l:=[(4,.d (.sl 1 (qAg ((p.drop (64*k)).take 64)))),(3,.ptr 0 0)]) yf (HLe.refl _) ?_
   subst hHs
   refine qJe (qEk (.inr ⟨l,rfl⟩) rfl ?_)
   refine wws ?_
   refine wwc hcp ?_
   refine wws ?_
   exact ⟨rfl,[],HLe.refl _⟩
  ·exact ⟨rfl,yf,by rw [hxl]⟩
 ·rintro E2 hE2 τ' h' ⟨_,hs,rfl⟩
  subst hHs
  refine qPg (h':=[.row [.d (.sl 1 (qJh (sf kk)))],.dead,.dead]) hs ⟨ObLe.refl _,trivial,trivial,trivial⟩ ?_
  refine qYf ?_
  generalize sf kk=v
  refine qAi ?_
  refine qAl (qAh ?_)
  refine wws ?_
  refine qBt 5 1 3 (es:=[]) (.inr ⟨rfl,rfl⟩) rfl ?_
  refine ww ?_
  refine qAw (ι:=Nat) (fun i=>[(5,.sl 1 (qAg (qUj v i)) (.right 3)),(19,.d (.sl 1 (qJh v))),(20,.I 8),(21,.I (i:Int))]) (fun i=>[.row [.d (.sl 1 (qJh v))],.dead,.dead,.right 1 (qAg (qUj v i)).length]) (fun i=>i≤8) (fun i=>8-i) 0 (Nat.zero_le _)
   yf (HLe.refl _) ?_
  intro i hi
  have hol:=encB_length (qUj v i)
  have hln:=outN_length v i hi
  refine ww ?_
  refine qAa rfl (fun c1=>?_) (fun c1=>?_)
  ·have hi':i < 8:=by simp at c1;omega
   have hv:=encW_at v hi'
   have hs:=outN_succ v hi'
   refine ww ?_
   refine wwi hv ?_
   refine ww ?_
   refine wwc (bytesOf_spec ((vwL v).getD i 0)) ?_
   refine ww ?_
   refine qAe (qAn (i:=3) hT rfl rfl rfl rfl rfl rfl (by show ((qAg (qUj v i)).length+4)*(1+1)≤_;omega)) rfl ?_
   refine ww ?_
   exact ⟨i+1,hi',by omega,⟨.slt (by rw [hs,encB_append]),.refl _,.refl _,.int (by rw [qAj (by omega)];omega),trivial⟩,⟨ObLe.refl _,ObLe.refl _,ObLe.refl _,⟨rfl,by rw [hs,encB_append]⟩,trivial⟩⟩
  ·have hi':i=8:=by simp at c1;omega
   subst hi'
   rw [outN_all]
   refine ww ?_
   refine rq ⟨rfl,rfl⟩ rfl AV.le.dat
 ·rintro e τ' h' he ⟨h1,_⟩
  exact absurd h1 he
theorem qRe (a b:List UInt8) (hl:a.length+b.length≤1000000):Spec Tryz.prog 83 [.d (.sl 1 (qAg a)),.d (.sl 1 (qAg b))] [] (fun r h'=>r=.d (.sl 1 (qAg (a++b)))∧h'=[]):=by
 have ha:=encB_length a
 have hb:=encB_length b
 refine qAb hT Tryz.func83 rfl rfl rfl rfl ?_;intro E hE
 refine qAi ?_
 refine ww ?_
 refine qAe (qHg (i:=0) hT rfl rfl rfl (.inr rfl) (by simp) rfl rfl (by show (qAg a).length*(1+1)≤140737488355328;omega)) rfl ?_
 refine ww ?_
 refine qAe (qAn (i:=0) hT rfl rfl rfl rfl rfl rfl (by show ((qAg a).length+(qAg b).length)*(1+1)≤_;omega)) rfl ?_
 refine ww ?_
 refine rq ⟨rfl,rfl⟩ rfl (AV.le.dat' ?_)
 rw [encB_append]
theorem qXm (n:Nat):(List.replicate n [AV.d (.int .u8 0)]).flatten=qAx (List.replicate n 0):=by
 rw [qKm];unfold qAx;rw [List.map_replicate];rfl
theorem qTn (n:Nat) (hn:1≤n∧n≤1000000):Spec Tryz.prog 67 [.nils,.I (n:Int)] [.room] (fun r h'=>∃ cap:Nat,n≤cap∧r=.row 0 0 0 cap∧h'=[.row (qAx (List.replicate n 0))]):=by
 refine qAb hT Tryz.func67 rfl rfl rfl rfl ?_;intro E hE
 refine ww ?_
 refine qAa rfl (fun c1=>?_) (fun c1=>?_)
 ·exact absurd c1 (by simp)
 refine ww ?_
 refine qAe (qAd (capNil_ok (sz:=1) hT rfl rfl rfl)) rfl ?_
 refine ww ?_
 refine qAa rfl (fun c2=>?_) (fun c2=>?_)
 ·refine ww ?_
  refine qAe (qAd (capNil_ok (sz:=1) hT rfl rfl rfl)) rfl ?_
  refine qAe (qAd (nilCut_ok (sz:=1) hT rfl rfl rfl rfl)) rfl ?_
  refine ww ?_
  refine qCv (growMake_ok (k':=.i64) (n:=n) (i0:=0) (sz:=1) hT rfl rfl rfl (.inr rfl) ?_ ⟨by omega,by decide⟩ (by show n*(1+1)≤_;omega) rfl) rfl ?_
  ·exact congrArg (fun z=>AV.d (.int .i64 z)) (by show IntKind.i64.wrap ((n:Int)-IntKind.i64.wrap (0-0))=(n:Int);rw [show IntKind.i64.wrap ((0:Int)-0)=0 from rfl,qAj (by omega)];omega)
  rintro v h' ⟨cap,hcap,rfl,rfl⟩
  rw [qXm]
  refine ww ?_
  refine qAe (qAd (qWd (sz:=1) (l:=0) (r:=0) (v:=.row 0 0 0 cap) hT rfl rfl rfl rfl ⟨_,rfl⟩ (by omega) (by omega) (by simp))) rfl ?_
  refine ww ?_
  exact rq (h6:=by show (qCk 1 (qAx _)&&true)=true;rw [Bool.and_true];exact lowL_bytes _ _) ⟨cap,hcap,rfl,rfl⟩ rfl (.refl _)
 ·exfalso
  rw [qAj (n:=0-0) (by omega),qAj (by omega)] at c2
  simp at c2
  omega
theorem qRv:∀ (new:List UInt8) (pre old post:List UInt8),old.length=new.length→qBz (qAx (pre++old++post)) pre.length (qAx new)=qAx (pre++new++post)
 | [],pre,old,post,h=>by cases old with | nil=>rfl | cons _ _=>simp at h
 | c::new,pre,old,post,h=>by
  cases old with
  | nil=>simp at h
  | cons d old =>
   have e:(qAx (pre++d::old++post)).set pre.length (.d (.int .u8 (c.toNat:Int)))=qAx ((pre++[c])++old++post):=by
    unfold qAx
    rw [List.append_assoc,List.map_append,List.set_append_right _ _ (by simp)]
    simp
   have ih:=qRv new (pre++[c]) old post (by simpa using h)
   show qBz ((qAx (pre++d::old++post)).set pre.length (.d (.int .u8 (c.toNat:Int)))) (pre.length+1) (qAx new)=_
   rw [e]
   simpa using ih
theorem setRun_fill (pre new:List UInt8) {k:Nat} (h:new.length≤k):qBz (qAx (pre++List.replicate k 0)) (pre.length*1) (qAu (qAg new))=qAx (pre++new++List.replicate (k-new.length) 0):=by
 have e:List.replicate k (0:UInt8)=List.replicate new.length 0++List.replicate (k-new.length) 0:=by rw [List.replicate_append_replicate];congr 1;omega
 rw [flatAV_encB,Nat.mul_one,e,← List.append_assoc]
 exact qRv new pre _ _ (by simp)
theorem qIx (l:List (List UInt8)) (hl:l.length≤10) (h0:1≤l.flatten.length) (hb:l.flatten.length≤900000):Spec Tryz.prog 34 [.d (.sl 1 (qKp l))] [] (fun r h'=>r=.d (.sl 1 (qAg l.flatten))∧h'=[]):=by
 have hll:=encBs_length l
 have hle:=flatN_le l
 have hall:=flatN_all l
 have hsuc:∀ i,i < l.length→qHm l (i+1)=qHm l i++l.getD i []:=fun i h=>flatN_succ h
 have hz:qHm l 0=[]:=rfl
 have hg:=qTn l.flatten.length (by omega)
 generalize qHm l=fl at hle hall hsuc hz
 generalize l.flatten=tot at *
 refine qAb hT Tryz.func34 rfl rfl rfl rfl ?_;intro E hE
 refine ww ?_
 refine qAw (ι:=Nat) (fun i=>[(0,.d (.sl 1 (qKp l))),(3,.I ((fl i).length:Int)),(9,.d (.sl 1 (qKp l))),(10,.I (l.length:Int)),(11,.I (i:Int))]) (fun _=>[]) (fun i=>i≤l.length) (fun i=>l.length-i) 0 (Nat.zero_le _)
  ⟨.refl _,.int (by rw [hz];rfl),.refl _,.int (by rw [hll]),.refl _,trivial⟩ (HLe.refl _) ?_
 intro i hi
 refine ww ?_
 refine qAa rfl (fun c1=>?_) (fun c1=>?_)
 ·have hi':i < l.length:=by simp at c1;omega
  have hat:=encBs_at hi'
  have h1:=hle (i+1) hi'
  have hs:=hsuc i hi'
  have hlen:(fl (i+1)).length=(fl i).length+(l.getD i []).length:=by rw [hs,List.length_append]
  generalize l.getD i []=s at hat hs hlen
  have hel:=encB_length s
  refine ww ?_
  refine wwi hat ?_
  refine ww ?_
  refine qAa rfl (fun c2=>?_) (fun c2=>?_)
  ·exfalso
   rw [hel,qAj (by omega)] at c2
   simp at c2
   omega
  refine ww ?_
  exact ⟨i+1,hi',by omega,⟨.refl _,.int (by rw [hel,hlen,qAj (by omega)];omega),.refl _,.refl _,.int (by rw [qAj (by omega)];omega),trivial⟩,HLe.refl _⟩
 have hi':i=l.length:=by simp at c1;omega
 subst hi'
 rw [hall]
 refine qAi ?_
 refine ww ?_
 refine qJa (qVa rfl rfl hg [0] (by decide) rfl rfl rfl rfl (fun _=>by show (qCk 0 (qAx _)&&true)=true;rw [Bool.and_true];exact lowL_bytes _ _) (fun _=>rfl) (fun _=>rfl)) rfl ?_
 intro cap hcap
 refine ww ?_
 refine qAw (ι:=Nat) (fun i=>[(6,.row 0 0 (fl i).length cap),(25,.d (.sl 1 (qKp l))),(26,.I (l.length:Int)),(27,.I (i:Int))]) (fun i=>[.row (qAx (fl i++List.replicate (tot.length-(fl i).length) 0))]) (fun i=>i≤l.length) (fun i=>l.length-i) 0 (Nat.zero_le _)
  ⟨by rw [hz];exact .refl _,.refl _,.int (by rw [hll]),.refl _,trivial⟩ ⟨ObLe.row (by rw [hz];rfl),trivial⟩ ?_
 intro i hi
 refine ww ?_
 refine qAa rfl (fun c1=>?_) (fun c1=>?_)
 ·have hi':i < l.length:=by simp at c1;omega
  have hat:=encBs_at hi'
  have h1:=hle (i+1) hi'
  have hs:=hsuc i hi'
  have hlen:(fl (i+1)).length=(fl i).length+(l.getD i []).length:=by rw [hs,List.length_append]
  generalize l.getD i []=s at hat hs hlen
  have hel:=encB_length s
  have hfill:=setRun_fill (fl i) s (k:=tot.length-(fl i).length) (by omega)
  rw [← hs,show tot.length-(fl i).length-s.length=tot.length-(fl (i+1)).length by omega] at hfill
  refine ww ?_
  refine wwi hat ?_
  refine ww ?_
  refine qAe (appRowD_ok (i:=0) (es2:=qAg s) hT rfl rfl rfl rfl rfl rfl (by rw [hel];omega) (by show ((fl i).length+(qAg s).length)*1≤_;rw [hel,byteAV_length,List.length_append,List.length_replicate];omega)) rfl ?_
  refine ww ?_
  exact ⟨i+1,hi',by omega,⟨by rw [hel,← hlen];exact .refl _,.refl _,.refl _,.int (by rw [qAj (by omega)];omega),trivial⟩,⟨ObLe.row hfill,trivial⟩⟩
 have hi':i=l.length:=by simp at c1;omega
 subst hi'
 refine qGv ?_
 refine qAs (l:=[(6,.row 0 0 tot.length cap)]) (h':=[.row (qAx tot)]) ⟨by rw [hall];exact .refl _,trivial⟩ ⟨ObLe.row (by rw [hall,Nat.sub_self];simp),trivial⟩ ?_
 refine qGl 6 0 1 (qAg tot) rfl rfl (encB_length tot) hcap (qDb tot) ?_
 refine ww ?_
 exact wwr
theorem qLl (b more:List UInt8) (h1:1≤more.length) (hl:b.length+more.length≤800000):Spec Tryz.prog 267 [.d (.sl 1 (qAg b)),.d (.sl 1 (qAg more))] [] (fun r h'=>r=.d (.sl 1 (qAg (qPo (b++more))))∧h'=[]):=by
 have hf:[b,more].flatten=b++more:=by simp
 have hc:=qIx [b,more] (by simp) (by rw [hf,List.length_append];omega) (by rw [hf,List.length_append];omega)
 have hs:=qVf (b++more) (by rw [List.length_append];omega)
 rw [hf] at hc
 generalize b++more=bm at hc hs
 refine qAb hT Tryz.func267 rfl rfl rfl rfl ?_;intro E hE
 refine ww ?_
 refine wwc hc ?_
 refine ww ?_
 refine wwc hs ?_
 refine ww ?_
 exact wwr
theorem qTp (seed:List UInt8) (n:Nat) (hs:seed.length≤500000) (h1:1≤n) (hn:n≤1024):Spec Tryz.prog 219 [.d (.sl 1 (qAg seed)),.I (n:Int)] [] (fun r h'=>r=.tup [.d (.sl 1 (qAg (qCu seed n))),.d (.sl 1 (qAg (qFp seed))),.I 0]∧h'=[]):=by
 have hdq:∀ i,n≤32*i→32*i < n+32→qCu seed n=(qIv seed i).take n:=drawS_eq seed n
 have hsu:∀ i,qIv seed (i+1)=qIv seed i++qPo (seed++1::qBr 4 i):=drawN_succ seed
 have hln:∀ i,(qIv seed i).length=32*i:=drawN_length seed
 have hz:qIv seed 0=[]:=rfl
 have hnx:=qLl seed [0] (by simp) (by simp;omega)
 have hnx2:qFp seed=qPo (seed++[0]):=rfl
 rw [← hnx2] at hnx
 generalize qFp seed=nx at hnx
 generalize qCu seed n=fin at hdq
 generalize qIv seed=dn at hdq hsu hln hz
 refine qAb hT Tryz.func219 rfl rfl rfl rfl ?_;intro E hE
 refine qAi ?_
 refine qAl (qAh ?_)
 refine wws ?_
 refine qBt 4 1 0 (es:=[]) (.inr ⟨rfl,rfl⟩) rfl ?_
 refine ww ?_
 refine qAa rfl (fun c1=>?_) (fun c1=>?_)
 ·exact absurd c1 (by simp;omega)
 refine ww ?_
 refine qAw (ι:=Nat) (fun i=>[(0,.d (.sl 1 (qAg seed))),(1,.I (n:Int)),(4,.sl 1 (qAg (dn i)) (.right 0)),(7,.I (i:Int))]) (fun i=>[.right 1 (qAg (dn i)).length]) (fun i=>32*i < n+32) (fun i=>n+32-32*i) 0 (by omega)
  ⟨.refl _,.refl _,.slt (by rw [hz];rfl),.refl _,trivial⟩ ⟨⟨rfl,by rw [hz];rfl⟩,trivial⟩ ?_
 intro i hi
 have hl:=hln i
 have hel:=encB_length (dn i)
 refine ww ?_
 refine qAa rfl (fun c2=>?_) (fun c2=>?_)
 ·have c2':32*i < n:=by simp at c2;omega
  have hs1:=hsu i
  have hoc:=qEs i 4 (by omega) (by omega)
  have h5:([[Dat.int .u8 1]]++qAg (qBr 4 i):List (List Dat))=qAg (1::qBr 4 i):=rfl
  have hol:=octB_length 4 i
  have hw:=qLl seed (1::qBr 4 i) (by simp) (by simp;omega)
  have hsl:=sumW_length (seed++1::qBr 4 i)
  generalize qPo (seed++1::qBr 4 i)=sm1 at hs1 hw hsl
  have hes:=encB_length sm1
  refine ww ?_
  refine wwc hoc ?_
  refine ww ?_
  refine qAe (qBe (es:=[[.int .u8 1]]) hT rfl rfl rfl (.inl rfl) rfl (by show (1+(qAg (qBr 4 i)).length)*(1+1)≤140737488355328;rw [encB_length,hol];omega)) rfl ?_
  rw [h5]
  refine ww ?_
  refine wwc hw ?_
  refine ww ?_
  refine qAe (qAn (i:=0) hT rfl rfl rfl rfl rfl rfl (by show ((qAg (dn i)).length+(qAg sm1).length)*(1+1)≤_;omega)) rfl ?_
  refine ww ?_
  exact ⟨i+1,by omega,by omega,⟨.refl _,.refl _,.slt (by rw [hs1,encB_append]),.int (by rw [qAj (by omega)];omega),trivial⟩,⟨⟨rfl,by rw [hs1,encB_append]⟩,trivial⟩⟩
 have c2':n≤32*i:=by simp at c2;omega
 rw [hdq i c2' hi]
 refine qGv ?_
 refine qAs (l:=[(0,.d (.sl 1 (qAg seed))),(1,.I (n:Int)),(4,.d (.sl 1 (qAg (dn i))))]) (h':=[.dead]) ⟨.refl _,.refl _,.dat,trivial⟩ ⟨trivial,trivial⟩ ?_
 refine ww ?_
 refine qBh (qAd (qUx (r:=n) hT rfl rfl rfl rfl rfl (by omega) (congrArg (fun z=>AV.d (.sl 1 z)) (encB_take _ _)))) rfl rfl ?_
 refine ww ?_
 refine wwc hnx ?_
 refine ww ?_
 exact wwr
theorem qG_val:qG=1073741789:=rfl
def qWc (k:Int):Bool:=decide (0 < k∧k < 1073741789)
theorem secF_get {k:Int} (h:qWc k=true):∃ n:Nat,k=(n:Int)∧1≤n∧n < qG:=by
 have hq:=qG_val
 have:=of_decide_eq_true h
 exact ⟨k.toNat,by omega,by omega,by omega⟩
theorem secretR_spec (k:Int):Spec Tryz.prog 114 [.I k] [] (fun r h'=>r=.d (.bool (qWc k))∧h'=[]):=by
 refine qAb hT Tryz.func114 rfl rfl rfl rfl ?_;intro E hE
 refine ww ?_
 refine rq ⟨rfl,rfl⟩ rfl (.bool ?_)
 unfold qWc
 rw [Bool.eq_iff_iff]
 simp
 omega
def qNo (k:Int):Int:=if qWc k=true then ((pubS k.toNat:Nat):Int) else 0
def pubE (k:Int):Int:=if qWc k=true then 0 else 3
theorem qTi (x k:Nat) (hx:x < pG) (hk:k≤qG):Spec Tryz.prog 115 [.I (x:Int),.I (k:Int)] [] (fun r h'=>r=.I ((x ^ k % pG:Nat):Int)∧h'=[]):=by
 have hq:=qG_val
 have h:=qPf x k 30 hx (by omega) (Nat.lt_of_le_of_lt hk (by decide))
 rw [powX_eq 30 x k 1 (Nat.lt_of_le_of_lt hk (by decide)) (by decide),Nat.one_mul] at h
 exact h
theorem qMw (k:Int):Spec Tryz.prog 74 [.I k] [] (fun r h'=>r=.tup [.I (qNo k),.I (pubE k)]∧h'=[]):=by
 have hs:=secretR_spec k
 unfold qNo pubE
 refine qAb hT Tryz.func74 rfl rfl rfl rfl ?_;intro E hE
 refine ww ?_
 refine wwc hs ?_
 refine ww ?_
 refine qAa rfl (fun c1=>?_) (fun c1=>?_)
 ·have c1':¬ qWc k=true:=by simpa using c1
  rw [if_neg c1',if_neg c1']
  refine ww ?_
  exact wwr
 have c1':qWc k=true:=by simpa using c1
 rw [if_pos c1',if_pos c1']
 obtain ⟨n,rfl,h1,h2⟩:=secF_get c1'
 have hp:=qTi 4 n (by decide) (by omega)
 rw [Int.toNat_natCast]
 unfold pubS
 generalize 4 ^ n % pG=p at hp
 refine ww ?_
 refine wwc hp ?_
 refine ww ?_
 exact wwr
theorem strAt_nat (s:List UInt8) (i:Nat):qPp s (i:Int)=bI (s.getD i 0):=by
 unfold qPp bI
 rw [Int.toNat_natCast,List.getD_eq_getElem?_getD]
theorem qLd (es:List (List Dat)) (hl:es.length≤1000000):Spec Tryz.prog 82 [.d (.sl 5 es)] [] (fun r h'=>r=.d (.sl 5 es)∧h'=[]):=by
 refine qAb hT Tryz.func82 rfl rfl rfl rfl ?_;intro E hE
 refine ww ?_
 refine qCv (eqNil_ok hT (fun _=>rfl) rfl rfl rfl) rfl ?_
 rintro v h' ⟨rfl,b,rfl,hb⟩
 refine ww ?_
 refine qAa rfl (fun h1=>?_) (fun h1=>?_)
 ·obtain rfl:=hb h1
  refine ww ?_
  exact qBf rfl AV.le.nils rfl rfl rfl rfl ⟨rfl,rfl⟩
 ·refine ww ?_
  refine qAe (qBe (es:=[]) hT rfl rfl rfl (.inl rfl) rfl (by show (([]:List (List Dat)).length+es.length)*(48+1)≤140737488355328;simp;omega)) rfl ?_
  refine ww ?_
  exact qBf rfl (.refl _) rfl rfl rfl rfl ⟨rfl,rfl⟩
theorem qLe (es:List (List Dat)) (hl:es.length≤1000000):Spec Tryz.prog 81 [.d (.sl 5 es)] [] (fun r h'=>r=.d (.sl 5 es)∧h'=[]):=by
 refine qAb hT Tryz.func81 rfl rfl rfl rfl ?_;intro E hE
 refine ww ?_
 refine qCv (eqNil_ok hT (fun _=>rfl) rfl rfl rfl) rfl ?_
 rintro v h' ⟨rfl,b,rfl,hb⟩
 refine ww ?_
 refine qAa rfl (fun h1=>?_) (fun h1=>?_)
 ·obtain rfl:=hb h1
  refine ww ?_
  exact qBf rfl AV.le.nils rfl rfl rfl rfl ⟨rfl,rfl⟩
 ·refine ww ?_
  refine qAe (qBe (es:=[]) hT rfl rfl rfl (.inl rfl) rfl (by show (([]:List (List Dat)).length+es.length)*(40+1)≤140737488355328;simp;omega)) rfl ?_
  refine ww ?_
  exact qBf rfl (.refl _) rfl rfl rfl rfl ⟨rfl,rfl⟩
theorem cloneFile_spec (f:Fil) (hl:f.con.length≤1000000):Spec Tryz.prog 78 [qQh f] [] (fun r h'=>r=qQh f∧h'=[]):=by
 obtain ⟨x1,x2,x3,x4,x5⟩:=f
 have hbl:=encB_length x3
 have hc:=qBc (qAg x3) (by rw [hbl];exact hl)
 refine qAb hT Tryz.func78 rfl rfl rfl rfl ?_;intro E hE
 refine ww ?_
 refine wwc hc ?_
 refine ww ?_
 exact wwr
theorem encFils_snoc {l:List Fil} {i:Nat} (h:i < l.length):qAc (l.take (i+1))=qAc (l.take i)++[qCs l[i]]:=by
 unfold qAc;rw [List.take_succ_eq_append_getElem h,List.map_append];rfl
theorem eachFi_spec (l:List Fil) (hl:l.length≤100000) (hf:∀ a,a∈l→a.con.length≤1000000):Spec Tryz.prog 77 [.d (.sl 5 (qAc l)),.fn (.func 78) [] []] [] (fun r h'=>r=.d (.sl 5 (qAc l))∧h'=[]):=by
 have hll:=encFils_length l
 refine qAb hT Tryz.func77 rfl rfl rfl rfl ?_;intro E hE
 refine qAi ?_
 refine qAl (qAh ?_)
 refine wws ?_
 refine qAl (qAh ?_)
 refine wws ?_
 refine qBt 5 5 0 (es:=[]) (.inr ⟨rfl,rfl⟩) rfl ?_
 refine ww ?_
 refine qBq (ι:=Nat) (fun i=>[(1,.fn (.func 78) [] []),(5,.sl 5 (qAc (l.take i)) (.right 0)),(8,.d (.sl 5 (qAc l))),(9,.I ((qAc l).length:Int)),(10,.I (i:Int))]) (fun i=>[.right 5 (qAc (l.take i)).length]) (fun i=>i≤l.length) (fun i=>l.length-i) 0 (Nat.zero_le _)
  yf (HLe.refl _) ?_
 intro i hi
 have hwr:IntKind.i64.wrap ((i:Int)+1)=((i+1:Nat):Int):=by rw [qAj (by omega)];simp
 have hpl:(qAc (l.take i)).length=i:=by rw [encFils_length,List.length_take];omega
 refine ww ?_
 refine qAa rfl (fun c3=>?_) (fun c3=>?_)
 ·have c3':i < l.length:=by rw [hll] at c3;simpa using c3
  have hel:=encFils_at c3'
  have hsn:=encFils_snoc c3'
  have hcl:=cloneFile_spec l[i] (hf _ (List.getElem_mem c3'))
  generalize l[i]=x at hel hsn hcl
  obtain ⟨x1,x2,x3,x4,x5⟩:=x
  unfold qCs at hel hsn
  simp only at hel hsn
  generalize qAc (l.take i)=pre at hsn hpl ⊢
  refine ww ?_
  refine wwi hel ?_
  refine ww ?_
  refine wwc hcl ?_
  refine ww ?_
  refine qAe (qAn (i:=0) hT rfl rfl rfl rfl rfl rfl (by show (pre.length+1)*(56+1)≤_;omega)) rfl ?_
  refine ww ?_
  exact ⟨i+1,[_],c3',by omega,⟨.refl _,.slt hsn.symm,.refl _,.refl _,.int hwr,trivial⟩,⟨⟨rfl,by rw [hsn]⟩,ObLe.refl _,trivial⟩,Env.below_mono hE (by simp),rfl,rfl⟩
 ·have c3':i=l.length:=by rw [hll] at c3;simp at c3;omega
  subst c3'
  rw [List.take_length]
  refine ww ?_
  refine rq ⟨rfl,rfl⟩ rfl AV.le.dat
theorem cloneApp_spec (a:Apk) (hl:a.files.length≤100000∧a.name.length≤1000000) (hf:∀ f,f∈a.files→f.con.length≤1000000):Spec Tryz.prog 80 [qQo a] [] (fun r h'=>r=qQo a∧h'=[]):=by
 obtain ⟨x1,x2⟩:=a
 have hbl:=encB_length x1
 have hc:=qBc (qAg x1) (by rw [hbl];exact hl.2)
 have he:=eachFi_spec x2 hl.1 hf
 refine qAb hT Tryz.func80 rfl rfl rfl rfl ?_;intro E hE
 refine wwn ?_
 refine qAy (fun i=>bif Nat.beq i 1||Nat.beq i 4 then [0] else bif Nat.beq i 7 then [1] else []) (fun i=>bif Nat.beq i 7 then [1] else []) mixed (by kernel_rfl) ?_
 refine wwg ?_
 refine wwdc hc ?_
 refine wwg ?_
 refine wwdc he ?_
 refine wwg ?_
 refine ww ?_
 exact wwr
theorem encApks_snoc {l:List Apk} {i:Nat} (h:i < l.length):qAf (l.take (i+1))=qAf (l.take i)++[qEx l[i]]:=by
 unfold qAf;rw [List.take_succ_eq_append_getElem h,List.map_append];rfl
theorem eachAp_spec (l:List Apk) (hl:l.length≤100000) (hf:∀ a,a∈l→a.files.length≤100000∧a.name.length≤1000000) (hg:∀ a,a∈l→∀ f,f∈a.files→f.con.length≤1000000):Spec Tryz.prog 79 [.d (.sl 2 (qAf l)),.fn (.func 80) [] []] [] (fun r h'=>r=.d (.sl 2 (qAf l))∧h'=[]):=by
 have hll:=encApks_length l
 refine qAb hT Tryz.func79 rfl rfl rfl rfl ?_;intro E hE
 refine qAi ?_
 refine qAl (qAh ?_)
 refine wws ?_
 refine qAl (qAh ?_)
 refine wws ?_
 refine qBt 5 2 0 (es:=[]) (.inr ⟨rfl,rfl⟩) rfl ?_
 refine ww ?_
 refine qBq (ι:=Nat) (fun i=>[(1,.fn (.func 80) [] []),(5,.sl 2 (qAf (l.take i)) (.right 0)),(8,.d (.sl 2 (qAf l))),(9,.I ((qAf l).length:Int)),(10,.I (i:Int))]) (fun i=>[.right 2 (qAf (l.take i)).length]) (fun i=>i≤l.length) (fun i=>l.length-i) 0 (Nat.zero_le _)
  yf (HLe.refl _) ?_
 intro i hi
 have hwr:IntKind.i64.wrap ((i:Int)+1)=((i+1:Nat):Int):=by rw [qAj (by omega)];simp
 have hpl:(qAf (l.take i)).length=i:=by rw [encApks_length,List.length_take];omega
 refine ww ?_
 refine qAa rfl (fun c3=>?_) (fun c3=>?_)
 ·have c3':i < l.length:=by rw [hll] at c3;simpa using c3
  have hel:=encApks_at c3'
  have hsn:=encApks_snoc c3'
  have hcl:=cloneApp_spec l[i] (hf _ (List.getElem_mem c3')) (hg _ (List.getElem_mem c3'))
  generalize l[i]=x at hel hsn hcl
  obtain ⟨x1,x2⟩:=x
  unfold qEx at hel hsn
  simp only at hel hsn
  generalize qAf (l.take i)=pre at hsn hpl ⊢
  refine ww ?_
  refine wwi hel ?_
  refine ww ?_
  refine wwc hcl ?_
  refine ww ?_
  refine qAe (qAn (i:=0) hT rfl rfl rfl rfl rfl rfl (by show (pre.length+1)*(48+1)≤_;omega)) rfl ?_
  refine ww ?_
  exact ⟨i+1,[_],c3',by omega,⟨.refl _,.slt hsn.symm,.refl _,.refl _,.int hwr,trivial⟩,⟨⟨rfl,by rw [hsn]⟩,ObLe.refl _,trivial⟩,Env.below_mono hE (by simp),rfl,rfl⟩
 ·have c3':i=l.length:=by rw [hll] at c3;simp at c3;omega
  subst c3'
  rw [List.take_length]
  refine ww ?_
  refine rq ⟨rfl,rfl⟩ rfl AV.le.dat
structure PerLen (p:Per):Prop where
 root:p.root.length≤100000∧∀ f,f∈p.root→f.con.length≤1000000
 apps:p.apps.length≤100000∧(∀ a,a∈p.apps→a.files.length≤100000∧a.name.length≤1000000)∧∀ a,a∈p.apps→∀ f,f∈a.files→f.con.length≤1000000
 str:p.number.length≤1000000∧p.pin.length≤1000000∧p.puk.length≤1000000∧p.ident.length≤1000000∧p.seed.length≤1000000
 infos:p.infos.length≤1000000
 tps:p.tps.length≤1000000
def qFu:List AV:=[.sl 5 [] .full,.sl 2 [] .full,.d (.str []),.sl 1 [] .full,.sl 1 [] .full,.sl 1 [] .full,.d (.int .i64 0),.d (.int .i64 0),.d (.bool false),.sl 5 [] .full,.d (.int .i64 0),.d (.int .i64 0),.sl 5 [] .full,.d (.int .i64 0),.sl 1 [] .full,.sl 1 [] .full]
theorem clonePer_spec (p:Per) (hp:PerLen p):Spec Tryz.prog 44 [qBw p] [] (fun r h'=>r=qBw p∧h'=[]):=by
 have e1:=eachFi_spec p.root hp.root.1 hp.root.2
 have e2:=eachAp_spec p.apps hp.apps.1 hp.apps.2.1 hp.apps.2.2
 have c0:=qBc (qAg p.number) (by rw [encB_length];exact hp.str.1)
 have c1:=qBc (qAg p.pin) (by rw [encB_length];exact hp.str.2.1)
 have c2:=qBc (qAg p.puk) (by rw [encB_length];exact hp.str.2.2.1)
 have c3:=qBc (qAg p.ident) (by rw [encB_length];exact hp.str.2.2.2.1)
 have c4:=qBc (qAg p.seed) (by rw [encB_length];exact hp.str.2.2.2.2)
 have ci:=qLe (qAt p.infos) (by rw [encFs_length];exact hp.infos)
 have ct:=qLd (qAp p.tps) (by rw [encTps_length];exact hp.tps)
 clear hp
 obtain ⟨root,apps,zone,number,pin,puk,pr,ur,basic,infos,ck,ak,tps,tday,ident,seed⟩:=p
 simp only at *
 refine qAb hT Tryz.func44 rfl rfl rfl rfl ?_;intro E hE
 refine qAi ?_
 refine wwn ?_
 refine qAy (fun i=>bif Nat.beq i 2||Nat.beq i 6||Nat.beq i 10 then [1] else []) (fun i=>bif Nat.beq i 10 then [1] else []) mixed (by kernel_rfl) ?_
 refine wwg ?_
 refine wwdc e1 ?_
 refine wwg ?_
 refine wwdc e2 ?_
 refine wwg ?_
 refine qAl (qAl (qAh ?_))
 refine wws ?_
 refine qAe (buildRowAt_ok (i0:=0) hT rfl rfl rfl) rfl ?_
 refine ww ?_
 refine qAw (ι:=Nat) (fun i=>[(1,.ptr 1 0),(2,.ptr 2 0),(20,.row 0 0 5 5),(21,.I 5),(22,.I (i:Int))])
  (fun _=>[.row [.ptr 1 3,.ptr 1 4,.ptr 1 5,.ptr 1 14,.ptr 1 15],.row (qBj ⟨root,apps,zone,number,pin,puk,pr,ur,basic,infos,ck,ak,tps,tday,ident,seed⟩),.row qFu]) (fun i=>i≤5) (fun i=>5-i) 0 (Nat.zero_le _)
  yf (HLe.refl _) ?_
 intro i hi
 rcases (by omega:i=0∨i=1∨i=2∨i=3∨i=4∨i=5) with rfl | rfl | rfl | rfl | rfl | rfl
 ·refine ww ?_
  refine qAa rfl (fun q=>?_) (fun q=>absurd q (by decide))
  refine ww ?_
  refine qAe (qAd (rowAddr_ok (sz:=1) hT rfl rfl rfl rfl ⟨by decide,by decide⟩)) rfl ?_
  refine ww ?_
  refine wwc c0 ?_
  refine ww ?_
  exact ⟨1,by omega,by omega,yf,HLe.refl _⟩
 ·refine ww ?_
  refine qAa rfl (fun q=>?_) (fun q=>absurd q (by decide))
  refine ww ?_
  refine qAe (qAd (rowAddr_ok (sz:=1) hT rfl rfl rfl rfl ⟨by decide,by decide⟩)) rfl ?_
  refine ww ?_
  refine wwc c1 ?_
  refine ww ?_
  exact ⟨2,by omega,by omega,yf,HLe.refl _⟩
 ·refine ww ?_
  refine qAa rfl (fun q=>?_) (fun q=>absurd q (by decide))
  refine ww ?_
  refine qAe (qAd (rowAddr_ok (sz:=1) hT rfl rfl rfl rfl ⟨by decide,by decide⟩)) rfl ?_
  refine ww ?_
  refine wwc c2 ?_
  refine ww ?_
  exact ⟨3,by omega,by omega,yf,HLe.refl _⟩
 ·refine ww ?_
  refine qAa rfl (fun q=>?_) (fun q=>absurd q (by decide))
  refine ww ?_
  refine qAe (qAd (rowAddr_ok (sz:=1) hT rfl rfl rfl rfl ⟨by decide,by decide⟩)) rfl ?_
  refine ww ?_
  refine wwc c3 ?_
  refine ww ?_
  exact ⟨4,by omega,by omega,yf,HLe.refl _⟩
 ·refine ww ?_
  refine qAa rfl (fun q=>?_) (fun q=>absurd q (by decide))
  refine ww ?_
  refine qAe (qAd (rowAddr_ok (sz:=1) hT rfl rfl rfl rfl ⟨by decide,by decide⟩)) rfl ?_
  refine ww ?_
  refine wwc c4 ?_
  refine ww ?_
  exact ⟨5,by omega,by omega,yf,HLe.refl _⟩
 ·refine ww ?_
  refine qAa rfl (fun q=>absurd q (by decide)) (fun q=>?_)
  refine ww ?_
  refine wwc ci ?_
  refine ww ?_
  refine wwc ct ?_
  refine ww ?_
  exact wwr
end Tdoc
namespace Tdoc
open Go
def byG (L:List Int) (a:Nat):Nat→List UInt8×Nat
 | 0=>([],a)
 | m+1=>(bOf (nxV L a 256)::(byG L (nxA L a) m).1,(byG L (nxA L a) m).2)
def byF (L:List Int) (a n:Nat):List UInt8×Nat:=byG L (nxA L a) (nxV L a ((n+1:Nat):Int)).toNat
theorem byG_ok {L:List Int}:∀ (m a:Nat),a≤L.length→(byG L a m).1.length=m∧(byG L a m).2≤L.length
 | 0,a,h=>⟨rfl,h⟩
 | m+1,a,h=>by
  obtain ⟨h1,h2⟩:=byG_ok m (nxA L a) (nxA_le h)
  exact ⟨by simp [byG,h1],h2⟩
theorem byF_ok {L:List Int} {a n:Nat} (h:a≤L.length):(byF L a n).1.length≤n∧(byF L a n).2≤L.length:=by
 have hv:=nxV_range (L:=L) (a:=a) (n:=((n+1:Nat):Int)) (by omega)
 obtain ⟨h1,h2⟩:=byG_ok (L:=L) (nxV L a ((n+1:Nat):Int)).toNat (nxA L a) (nxA_le h)
 exact ⟨by unfold byF;omega,h2⟩
def qJy (L:List Int) (a:Nat):Int×Int×Nat:=if nxV L a 5=3 then (nxV L a 5,nxV L (nxA L a) 16,nxA L (nxA L a)) else (nxV L a 5,0,nxA L a)
theorem accF_ok {L:List Int} {a:Nat} (h:a≤L.length):(qJy L a).2.2≤L.length:=by
 unfold qJy;split
 ·exact nxA_le (nxA_le h)
 ·exact nxA_le h
def fil1 (L:List Int) (a k:Nat):Fil×Nat :=
 (⟨256+(k:Int),if nxV L (qJy L (byF L a 60).2).2.2 2=1 then 1+(k:Int) else 0,(byF L a 60).1,(qJy L (byF L a 60).2).1,(qJy L (byF L a 60).2).2.1⟩,nxA L (qJy L (byF L a 60).2).2.2)
theorem qWq {L:List Int} {a k:Nat} (h:a≤L.length):(fil1 L a k).1.con.length≤60∧(fil1 L a k).2≤L.length:=by
 obtain ⟨h1,h2⟩:=byF_ok (n:=60) h
 exact ⟨h1,nxA_le (accF_ok h2)⟩
def qPb (L:List Int):Nat→List Fil→Nat→List Fil×Nat
 | 0,out,a=>(out,a)
 | n+1,out,a=>qPb L n (out++[(fil1 L a out.length).1]) (fil1 L a out.length).2
def qHn (L:List Int) (a:Nat):List Fil×Nat:=qPb L (nxV L a 5).toNat [] (nxA L a)
theorem filG_ok {L:List Int}:∀ (n:Nat) (out:List Fil) (a:Nat),a≤L.length→(∀ f,f∈out→f.con.length≤60)→(qPb L n out a).1.length=out.length+n∧(∀ f,f∈(qPb L n out a).1→f.con.length≤60)∧(qPb L n out a).2≤L.length
 | 0,out,a,h,ho=>⟨rfl,ho,h⟩
 | n+1,out,a,h,ho=>by
  obtain ⟨g1,g2⟩:=qWq (k:=out.length) h
  obtain ⟨h1,h2,h3⟩:=filG_ok n (out++[(fil1 L a out.length).1]) (fil1 L a out.length).2 g2 (fun f hf=>by
   rcases List.mem_append.1 hf with hf | hf
   ·exact ho f hf
   ·rw [List.mem_singleton.1 hf];exact g1)
  exact ⟨by rw [qPb,h1];simp;omega,h2,h3⟩
theorem filF_ok {L:List Int} {a:Nat} (h:a≤L.length):(qHn L a).1.length≤4∧(∀ f,f∈(qHn L a).1→f.con.length≤60)∧(qHn L a).2≤L.length:=by
 have hv:=nxV_range (L:=L) (a:=a) (n:=5) (by omega)
 obtain ⟨h1,h2,h3⟩:=filG_ok (L:=L) (nxV L a 5).toNat [] (nxA L a) (nxA_le h) (fun f hf=>by cases hf)
 exact ⟨by unfold qHn;rw [h1];simp;omega,h2,h3⟩
def apG (L:List Int):Nat→List Apk→Nat→List Apk×Nat
 | 0,out,a=>(out,a)
 | n+1,out,a=>apG L n (out++[⟨[160,bOf ((n+1:Nat):Int)],(qHn L a).1⟩]) (qHn L a).2
def ApOk (a:Apk):Prop:=a.name.length≤3∧a.files.length≤5∧∀ f,f∈a.files→f.con.length≤60
theorem apG_ok {L:List Int}:∀ (n:Nat) (out:List Apk) (a:Nat),a≤L.length→(∀ f,f∈out→ApOk f)→(apG L n out a).1.length=out.length+n∧(∀ f,f∈(apG L n out a).1→ApOk f)∧(apG L n out a).2≤L.length
 | 0,out,a,h,ho=>⟨rfl,ho,h⟩
 | n+1,out,a,h,ho=>by
  obtain ⟨g1,g2,g3⟩:=filF_ok h
  obtain ⟨h1,h2,h3⟩:=apG_ok n (out++[⟨[160,bOf ((n+1:Nat):Int)],(qHn L a).1⟩]) (qHn L a).2 g3 (fun f hf=>by
   rcases List.mem_append.1 hf with hf | hf
   ·exact ho f hf
   ·rw [List.mem_singleton.1 hf];exact ⟨by simp,by simp only;omega,g2⟩)
  exact ⟨by rw [apG,h1];simp;omega,h2,h3⟩
def qRk (L:List Int) (a:Nat):List Fil×List Apk×Nat :=
 ((qHn L a).1,(apG L (nxV L (qHn L a).2 3).toNat [] (nxA L (qHn L a).2)).1,(apG L (nxV L (qHn L a).2 3).toNat [] (nxA L (qHn L a).2)).2)
theorem flsF_ok {L:List Int} {a:Nat} (h:a≤L.length):(qRk L a).1.length≤4∧(∀ f,f∈(qRk L a).1→f.con.length≤60)∧(qRk L a).2.1.length≤2∧(∀ f,f∈(qRk L a).2.1→ApOk f)∧(qRk L a).2.2≤L.length:=by
 obtain ⟨g1,g2,g3⟩:=filF_ok h
 have hv:=nxV_range (L:=L) (a:=(qHn L a).2) (n:=3) (by omega)
 obtain ⟨h1,h2,h3⟩:=apG_ok (L:=L) (nxV L (qHn L a).2 3).toNat [] (nxA L (qHn L a).2) (nxA_le g3) (fun f hf=>by cases hf)
 exact ⟨g1,g2,by unfold qRk;rw [h1];simp;omega,h2,h3⟩
open Go Go.Proofs
theorem bOf_u8 {x:Int}:qAg [bOf x]=[[Dat.int .u8 (IntKind.u8.wrap x)]]:=by rw [bOf_wrap];rfl
theorem qEu (L:List Int) (hL:L.length≤1000000) (a:Nat) (ha:a≤L.length) (n:Nat) (hn:n≤1000000) :
  Spec Tryz.prog 31 [.ptr 0 0,.I (n:Int)] [.row (qAk L a),.room] (fun r h'=>r=.sl 1 (qAg (byF L a n).1) (.right 1)∧h'=[.row (qAk L (byF L a n).2),.right 1 (qAg (byF L a n).1).length]):=by
 have hw0:IntKind.i64.wrap ((n:Int)+1)=((n+1:Nat):Int):=by rw [qAj (by omega)];omega
 have hN:=qAq L hL a ha ((n+1:Nat):Int) (by omega) (by omega)
 have hv:=nxV_range (L:=L) (a:=a) (n:=((n+1:Nat):Int)) (by omega)
 have hA:=nxA_le ha
 unfold byF
 generalize nxV L a ((n+1:Nat):Int)=m at hN hv ⊢
 generalize nxA L a=a1 at hN hA ⊢
 obtain ⟨m,rfl⟩:∃ m':Nat,m=(m':Int):=⟨m.toNat,by omega⟩
 rw [Int.toNat_natCast]
 rw [← hw0] at hN
 generalize hfin:byG L a1 m=fin
 refine qAb hT Tryz.func31 rfl rfl rfl rfl ?_;intro E hE
 refine ww ?_
 refine qAe (qAr rfl rfl (hN) [0] (by decide) rfl rfl rfl rfl rfl rfl rfl) rfl ?_
 refine ww ?_
 refine qBt 5 1 1 (es:=[]) (.inr ⟨rfl,rfl⟩) rfl ?_
 refine qAw (ι:=Nat×Nat×List UInt8) (fun x=>[(0,.ptr 0 0),(5,.sl 1 (qAg x.2.2) (.right 1)),(6,.I (x.2.1:Int))]) (fun x=>[.row (qAk L x.1),.right 1 (qAg x.2.2).length])
  (fun x=>x.1≤L.length∧x.2.2++(byG L x.1 x.2.1).1=fin.1∧(byG L x.1 x.2.1).2=fin.2∧x.2.2.length+x.2.1≤n) (fun x=>x.2.1) (a1,m,[]) ⟨hA,by simp only [hfin,List.nil_append],by simp only [hfin],by simp;omega⟩ yf (HLe.refl _) ?_
 rintro ⟨b,m,out⟩ ⟨h1,h2,h3,h4⟩
 simp only at h1 h2 h3 h4 ⊢
 have hol:=encB_length out
 refine ww ?_
 refine qAa rfl (fun h5=>?_) (fun h5=>?_)
 ·obtain ⟨m,rfl⟩:∃ m',m=m'+1:=⟨m-1,by simp at h5;omega⟩
  have hN:=qAq L hL b h1 256 (by omega) (by omega)
  have hA:=nxA_le h1
  rw [byG] at h2 h3
  simp only at h2 h3
  generalize nxA L b=b2 at hN hA h2 h3
  generalize nxV L b 256=x at hN h2 h3
  refine ww ?_
  refine qAe (qAr rfl rfl (hN) [0] (by decide) rfl rfl rfl rfl rfl rfl rfl) rfl ?_
  refine ww ?_
  refine qAe (qAn (i:=1) hT rfl rfl rfl rfl rfl rfl (by show ((qAg out).length+1)*(1+1)≤_;omega)) rfl ?_
  have hwm:IntKind.i64.wrap (((m+1:Nat):Int)-1)=(m:Int):=by rw [qAj (by omega)];omega
  refine ww ?_
  have hres:qAg (out++[bOf x])=qAg out++[[Dat.int .u8 (IntKind.u8.wrap x)]]:=by rw [encB_append,bOf_u8]
  exact ⟨(b2,m,out++[bOf x]),⟨hA,by rw [← h2];simp,h3,by simp only [List.length_append,List.length_singleton];omega⟩,by simp only;omega,⟨.refl _,AV.le.eq (by rw [hres];rfl),.int hwm,trivial⟩,⟨ObLe.refl _,⟨rfl,by rw [hres]⟩,trivial⟩⟩
 ·have h5':m=0:=by simp at h5;omega
  subst h5'
  simp only [byG,List.append_nil] at h2 h3
  subst h2
  subst h3
  refine ww ?_
  exact qCy ⟨rfl,rfl⟩ rfl (.refl _) rfl rfl rfl rfl
theorem qDp (L:List Int) (hL:L.length≤1000000) (a:Nat) (ha:a≤L.length) (n:Nat) (hn:n≤1000000) :
  Spec Tryz.prog 31 [.ptr 0 0,.I (n:Int)] [.row (qAk L a)] (fun r h'=>r=.d (.sl 1 (qAg (byF L a n).1))∧h'=[.row (qAk L (byF L a n).2)]):=by
 have hw0:IntKind.i64.wrap ((n:Int)+1)=((n+1:Nat):Int):=by rw [qAj (by omega)];omega
 have hN:=qAq L hL a ha ((n+1:Nat):Int) (by omega) (by omega)
 have hv:=nxV_range (L:=L) (a:=a) (n:=((n+1:Nat):Int)) (by omega)
 have hA:=nxA_le ha
 unfold byF
 generalize nxV L a ((n+1:Nat):Int)=m at hN hv ⊢
 generalize nxA L a=a1 at hN hA ⊢
 obtain ⟨m,rfl⟩:∃ m':Nat,m=(m':Int):=⟨m.toNat,by omega⟩
 rw [Int.toNat_natCast]
 rw [← hw0] at hN
 generalize hfin:byG L a1 m=fin
 refine qAb hT Tryz.func31 rfl rfl rfl rfl ?_;intro E hE
 refine ww ?_
 refine qAe (qAr rfl rfl (hN) [0] (by decide) rfl rfl rfl rfl rfl rfl rfl) rfl ?_
 refine ww ?_
 refine qAi (qBt 5 1 1 (es:=[]) (.inr ⟨rfl,rfl⟩) rfl ?_)
 refine qAw (ι:=Nat×Nat×List UInt8) (fun x=>[(0,.ptr 0 0),(5,.sl 1 (qAg x.2.2) (.right 1)),(6,.I (x.2.1:Int))]) (fun x=>[.row (qAk L x.1),.right 1 (qAg x.2.2).length])
  (fun x=>x.1≤L.length∧x.2.2++(byG L x.1 x.2.1).1=fin.1∧(byG L x.1 x.2.1).2=fin.2∧x.2.2.length+x.2.1≤n) (fun x=>x.2.1) (a1,m,[]) ⟨hA,by simp only [hfin,List.nil_append],by simp only [hfin],by simp;omega⟩ yf (HLe.refl _) ?_
 rintro ⟨b,m,out⟩ ⟨h1,h2,h3,h4⟩
 simp only at h1 h2 h3 h4 ⊢
 have hol:=encB_length out
 refine ww ?_
 refine qAa rfl (fun h5=>?_) (fun h5=>?_)
 ·obtain ⟨m,rfl⟩:∃ m',m=m'+1:=⟨m-1,by simp at h5;omega⟩
  have hN:=qAq L hL b h1 256 (by omega) (by omega)
  have hA:=nxA_le h1
  rw [byG] at h2 h3
  simp only at h2 h3
  generalize nxA L b=b2 at hN hA h2 h3
  generalize nxV L b 256=x at hN h2 h3
  refine ww ?_
  refine qAe (qAr rfl rfl (hN) [0] (by decide) rfl rfl rfl rfl rfl rfl rfl) rfl ?_
  refine ww ?_
  refine qAe (qAn (i:=1) hT rfl rfl rfl rfl rfl rfl (by show ((qAg out).length+1)*(1+1)≤_;omega)) rfl ?_
  have hwm:IntKind.i64.wrap (((m+1:Nat):Int)-1)=(m:Int):=by rw [qAj (by omega)];omega
  refine ww ?_
  have hres:qAg (out++[bOf x])=qAg out++[[Dat.int .u8 (IntKind.u8.wrap x)]]:=by rw [encB_append,bOf_u8]
  exact ⟨(b2,m,out++[bOf x]),⟨hA,by rw [← h2];simp,h3,by simp only [List.length_append,List.length_singleton];omega⟩,by simp only;omega,⟨.refl _,AV.le.eq (by rw [hres];rfl),.int hwm,trivial⟩,⟨ObLe.refl _,⟨rfl,by rw [hres]⟩,trivial⟩⟩
 ·have h5':m=0:=by simp at h5;omega
  subst h5'
  simp only [byG,List.append_nil] at h2 h3
  subst h2
  subst h3
  refine ww ?_
  exact qCy ⟨rfl,rfl⟩ rfl .dat rfl rfl rfl rfl
theorem qGk (L:List Int) (hL:L.length≤1000000) (a:Nat) (ha:a≤L.length) (n:Int) (h1:1≤n) (hn:n≤4611686018427387904) :
  Spec Tryz.prog 8 [.ptr 0 0,.I n] [.row (qAk L a)] (fun r h'=>r=.d (.bool (decide (nxV L a n=n-1)))∧h'=[.row (qAk L (nxA L a))]):=by
 have hN:=qAq L hL a ha n h1 hn
 have hw:IntKind.i64.wrap (n-1)=n-1:=qAj (by omega)
 generalize nxV L a n=v at hN ⊢
 generalize nxA L a=a1 at hN ⊢
 refine qAb hT Tryz.func8 rfl rfl rfl rfl ?_;intro E hE
 refine ww ?_
 refine qAe (qAr rfl rfl (hN) [0] (by decide) rfl rfl rfl rfl rfl rfl rfl) rfl ?_
 refine ww ?_
 exact qCy ⟨rfl,rfl⟩ rfl (.bool (by rw [hw];rfl)) rfl rfl rfl rfl
theorem qHj (L:List Int) (hL:L.length≤1000000) (a:Nat) (ha:a≤L.length) :
  Spec Tryz.prog 113 [.ptr 0 0] [.row (qAk L a)] (fun r h'=>r=.agg [.d (.int .i64 (qJy L a).1),.d (.int .i64 (qJy L a).2.1)]∧h'=[.row (qAk L (qJy L a).2.2)]):=by
 have hN:=qAq L hL a ha 5 (by omega) (by omega)
 have hA:=nxA_le ha
 have hN2:=qAq L hL (nxA L a) hA 16 (by omega) (by omega)
 unfold qJy
 generalize nxV L (nxA L a) 16=w at hN2 ⊢
 generalize nxA L (nxA L a)=a2 at hN2 ⊢
 generalize nxV L a 5=v at hN ⊢
 generalize nxA L a=a1 at hN hN2 ⊢
 refine qAb hT Tryz.func113 rfl rfl rfl rfl ?_;intro E hE
 refine qAi (qAi ?_)
 refine ww ?_
 refine qAe (qAr rfl rfl (hN) [0] (by decide) rfl rfl rfl rfl rfl rfl rfl) rfl ?_
 refine ww ?_
 refine qAa rfl (fun c1=>?_) (fun c1=>?_)
 ·have c1':v=3:=by simpa using c1
  rw [if_pos c1']
  refine ww ?_
  refine qAe (qAr rfl rfl (hN2) [0] (by decide) rfl rfl rfl rfl rfl rfl rfl) rfl ?_
  refine ww ?_
  exact wwr
 ·have c1':¬ v=3:=by simpa using c1
  rw [if_neg c1']
  refine ww ?_
  exact wwr
theorem qMz (L:List Int) (hL:L.length≤1000000) (a:Nat) (ha:a≤L.length) :
  Spec Tryz.prog 73 [.ptr 0 0] [.row (qAk L a),.room] (fun r h'=>r=.sl 5 (qAc (qHn L a).1) (.right 1)∧h'=[.row (qAk L (qHn L a).2),.right 5 (qAc (qHn L a).1).length]):=by
 have hN:=qAq L hL a ha 5 (by omega) (by omega)
 have hv:=nxV_range (L:=L) (a:=a) (n:=5) (by omega)
 have hA:=nxA_le ha
 unfold qHn
 generalize nxV L a 5=m at hN hv ⊢
 generalize nxA L a=a1 at hN hA ⊢
 obtain ⟨m,rfl⟩:∃ m':Nat,m=(m':Int):=⟨m.toNat,by omega⟩
 rw [Int.toNat_natCast]
 generalize hfin:qPb L m [] a1=fin
 refine qAb hT Tryz.func73 rfl rfl rfl rfl ?_;intro E hE
 refine ww ?_
 refine qAe (qAr rfl rfl (hN) [0] (by decide) rfl rfl rfl rfl rfl rfl rfl) rfl ?_
 refine ww ?_
 refine qBt 3 5 1 (es:=[]) (.inr ⟨rfl,rfl⟩) rfl ?_
 refine qBq (ι:=Nat×Nat×List Fil) (fun x=>[(0,.ptr 0 0),(3,.sl 5 (qAc x.2.2) (.right 1)),(4,.I (x.2.1:Int))]) (fun x=>[.row (qAk L x.1),.right 5 (qAc x.2.2).length])
  (fun x=>x.1≤L.length∧qPb L x.2.1 x.2.2 x.1=fin∧x.2.2.length+x.2.1≤4) (fun x=>x.2.1) (a1,m,[]) ⟨hA,hfin,by simp;omega⟩ yf (HLe.refl _) ?_
 rintro ⟨b,m,out⟩ ⟨h1,h2,h3⟩
 simp only at h1 h2 h3 ⊢
 have hol:=encFils_length out
 refine ww ?_
 refine qAa rfl (fun h5=>?_) (fun h5=>?_)
 ·obtain ⟨m,rfl⟩:∃ m',m=m'+1:=⟨m-1,by simp at h5;omega⟩
  have hB:=qDp L hL b h1 60 (by omega)
  have hb1:=(byF_ok (n:=60) h1).2
  have hc:=(byF_ok (n:=60) h1).1
  have hAc:=qHj L hL _ hb1
  have hb2:=accF_ok hb1
  have hO:=qGk L hL _ hb2 2 (by omega) (by omega)
  have hb3:=nxA_le hb2
  have hf1:fil1 L b out.length=(⟨256+(out.length:Int),if nxV L (qJy L (byF L b 60).2).2.2 2=1 then 1+(out.length:Int) else 0,(byF L b 60).1,(qJy L (byF L b 60).2).1,(qJy L (byF L b 60).2).2.1⟩,nxA L (qJy L (byF L b 60).2).2.2):=rfl
  rw [qPb,hf1] at h2
  clear hf1
  generalize byF L b 60=p at hB hb1 hc hAc hb2 hO hb3 h2
  obtain ⟨con,b1⟩:=p
  simp only at hB hb1 hc hAc hb2 hO hb3 h2
  generalize qJy L b1=q at hAc hb2 hO hb3 h2
  obtain ⟨lev,rgt,b2⟩:=q
  simp only at hAc hb2 hO hb3 h2
  generalize nxV L b2 2=v at hO h2
  generalize nxA L b2=b3 at hO h2 hb3
  have hw1:IntKind.i64.wrap (256+((qAc out).length:Int))=256+(out.length:Int):=by rw [qAj (by omega)];omega
  have hw2:IntKind.i64.wrap (1+((qAc out).length:Int))=1+(out.length:Int):=by rw [qAj (by omega)];omega
  have hwm:IntKind.i64.wrap (((m+1:Nat):Int)-1)=(m:Int):=by rw [qAj (by omega)];omega
  have hdone:∀ s:Int,qAc (out++[⟨256+(out.length:Int),s,con,lev,rgt⟩])=qAc out++[[.int .i64 (256+(out.length:Int)),.int .i64 s,.sl 1 (qAg con),.int .i64 lev,.int .i64 rgt]]:=fun s=>by simp [qAc,qCs]
  refine ww ?_
  refine qAe (qAr rfl rfl (hB) [0] (by decide) rfl rfl rfl rfl rfl rfl rfl) rfl ?_
  refine ww ?_
  refine qAe (qAr rfl rfl (hAc) [0] (by decide) rfl rfl rfl rfl rfl rfl rfl) rfl ?_
  refine ww ?_
  refine qAe (qAr rfl rfl (hO) [0] (by decide) rfl rfl rfl rfl rfl rfl rfl) rfl ?_
  refine ww ?_
  refine qAa rfl (fun c1=>?_) (fun c1=>?_)
  ·have c1':v=1:=by simpa using c1
   rw [if_pos c1'] at h2
   refine ww ?_
   refine qAe (qAn (i:=1) hT rfl rfl rfl rfl rfl rfl (by show ((qAc out).length+1)*(56+1)≤_;omega)) rfl ?_
   refine ww ?_
   exact ⟨(b3,m,out++[⟨256+(out.length:Int),1+(out.length:Int),con,lev,rgt⟩]),[.row [.I (256+(out.length:Int)),.I (1+(out.length:Int)),.d (.sl 1 (qAg con)),.I lev,.I rgt]],⟨hb3,h2,by simp only [List.length_append,List.length_singleton];omega⟩,by simp only;omega,⟨.refl _,AV.le.eq (by rw [hdone,hw1,hw2];rfl),.int hwm,trivial⟩,
    ⟨ObLe.refl _,⟨rfl,by rw [hdone,hw1,hw2]⟩,by rw [hw1,hw2];exact ObLe.refl _,trivial⟩,Env.below_mono hE (by simp),rfl,rfl⟩
  ·have c1':¬ v=1:=by simpa using c1
   rw [if_neg c1'] at h2
   refine ww ?_
   refine qAe (qAn (i:=1) hT rfl rfl rfl rfl rfl rfl (by show ((qAc out).length+1)*(56+1)≤_;omega)) rfl ?_
   refine ww ?_
   exact ⟨(b3,m,out++[⟨256+(out.length:Int),0,con,lev,rgt⟩]),[.row [.I (256+(out.length:Int)),.I 0,.d (.sl 1 (qAg con)),.I lev,.I rgt]],⟨hb3,h2,by simp only [List.length_append,List.length_singleton];omega⟩,by simp only;omega,⟨.refl _,AV.le.eq (by rw [hdone,hw1];rfl),.int hwm,trivial⟩,
    ⟨ObLe.refl _,⟨rfl,by rw [hdone,hw1]⟩,by rw [hw1];exact ObLe.refl _,trivial⟩,Env.below_mono hE (by simp),rfl,rfl⟩
 ·have h5':m=0:=by simp at h5;omega
  subst h5'
  simp only [qPb] at h2
  subst h2
  refine ww ?_
  exact qCy ⟨rfl,rfl⟩ rfl (.refl _) rfl rfl rfl rfl
theorem qNa (L:List Int) (hL:L.length≤1000000) (a:Nat) (ha:a≤L.length) :
  Spec Tryz.prog 73 [.ptr 0 0] [.row (qAk L a)] (fun r h'=>r=.d (.sl 5 (qAc (qHn L a).1))∧h'=[.row (qAk L (qHn L a).2)]):=by
 have hN:=qAq L hL a ha 5 (by omega) (by omega)
 have hv:=nxV_range (L:=L) (a:=a) (n:=5) (by omega)
 have hA:=nxA_le ha
 unfold qHn
 generalize nxV L a 5=m at hN hv ⊢
 generalize nxA L a=a1 at hN hA ⊢
 obtain ⟨m,rfl⟩:∃ m':Nat,m=(m':Int):=⟨m.toNat,by omega⟩
 rw [Int.toNat_natCast]
 generalize hfin:qPb L m [] a1=fin
 refine qAb hT Tryz.func73 rfl rfl rfl rfl ?_;intro E hE
 refine ww ?_
 refine qAe (qAr rfl rfl (hN) [0] (by decide) rfl rfl rfl rfl rfl rfl rfl) rfl ?_
 refine ww ?_
 refine qAi (qBt 3 5 1 (es:=[]) (.inr ⟨rfl,rfl⟩) rfl ?_)
 refine qBq (ι:=Nat×Nat×List Fil) (fun x=>[(0,.ptr 0 0),(3,.sl 5 (qAc x.2.2) (.right 1)),(4,.I (x.2.1:Int))]) (fun x=>[.row (qAk L x.1),.right 5 (qAc x.2.2).length])
  (fun x=>x.1≤L.length∧qPb L x.2.1 x.2.2 x.1=fin∧x.2.2.length+x.2.1≤4) (fun x=>x.2.1) (a1,m,[]) ⟨hA,hfin,by simp;omega⟩ yf (HLe.refl _) ?_
 rintro ⟨b,m,out⟩ ⟨h1,h2,h3⟩
 simp only at h1 h2 h3 ⊢
 have hol:=encFils_length out
 refine ww ?_
 refine qAa rfl (fun h5=>?_) (fun h5=>?_)
 ·obtain ⟨m,rfl⟩:∃ m',m=m'+1:=⟨m-1,by simp at h5;omega⟩
  have hB:=qDp L hL b h1 60 (by omega)
  have hb1:=(byF_ok (n:=60) h1).2
  have hc:=(byF_ok (n:=60) h1).1
  have hAc:=qHj L hL _ hb1
  have hb2:=accF_ok hb1
  have hO:=qGk L hL _ hb2 2 (by omega) (by omega)
  have hb3:=nxA_le hb2
  have hf1:fil1 L b out.length=(⟨256+(out.length:Int),if nxV L (qJy L (byF L b 60).2).2.2 2=1 then 1+(out.length:Int) else 0,(byF L b 60).1,(qJy L (byF L b 60).2).1,(qJy L (byF L b 60).2).2.1⟩,nxA L (qJy L (byF L b 60).2).2.2):=rfl
  rw [qPb,hf1] at h2
  clear hf1
  generalize byF L b 60=p at hB hb1 hc hAc hb2 hO hb3 h2
  obtain ⟨con,b1⟩:=p
  simp only at hB hb1 hc hAc hb2 hO hb3 h2
  generalize qJy L b1=q at hAc hb2 hO hb3 h2
  obtain ⟨lev,rgt,b2⟩:=q
  simp only at hAc hb2 hO hb3 h2
  generalize nxV L b2 2=v at hO h2
  generalize nxA L b2=b3 at hO h2 hb3
  have hw1:IntKind.i64.wrap (256+((qAc out).length:Int))=256+(out.length:Int):=by rw [qAj (by omega)];omega
  have hw2:IntKind.i64.wrap (1+((qAc out).length:Int))=1+(out.length:Int):=by rw [qAj (by omega)];omega
  have hwm:IntKind.i64.wrap (((m+1:Nat):Int)-1)=(m:Int):=by rw [qAj (by omega)];omega
  have hdone:∀ s:Int,qAc (out++[⟨256+(out.length:Int),s,con,lev,rgt⟩])=qAc out++[[.int .i64 (256+(out.length:Int)),.int .i64 s,.sl 1 (qAg con),.int .i64 lev,.int .i64 rgt]]:=fun s=>by simp [qAc,qCs]
  refine ww ?_
  refine qAe (qAr rfl rfl (hB) [0] (by decide) rfl rfl rfl rfl rfl rfl rfl) rfl ?_
  refine ww ?_
  refine qAe (qAr rfl rfl (hAc) [0] (by decide) rfl rfl rfl rfl rfl rfl rfl) rfl ?_
  refine ww ?_
  refine qAe (qAr rfl rfl (hO) [0] (by decide) rfl rfl rfl rfl rfl rfl rfl) rfl ?_
  refine ww ?_
  refine qAa rfl (fun c1=>?_) (fun c1=>?_)
  ·have c1':v=1:=by simpa using c1
   rw [if_pos c1'] at h2
   refine ww ?_
   refine qAe (qAn (i:=1) hT rfl rfl rfl rfl rfl rfl (by show ((qAc out).length+1)*(56+1)≤_;omega)) rfl ?_
   refine ww ?_
   exact ⟨(b3,m,out++[⟨256+(out.length:Int),1+(out.length:Int),con,lev,rgt⟩]),[.row [.I (256+(out.length:Int)),.I (1+(out.length:Int)),.d (.sl 1 (qAg con)),.I lev,.I rgt]],⟨hb3,h2,by simp only [List.length_append,List.length_singleton];omega⟩,by simp only;omega,⟨.refl _,AV.le.eq (by rw [hdone,hw1,hw2];rfl),.int hwm,trivial⟩,
    ⟨ObLe.refl _,⟨rfl,by rw [hdone,hw1,hw2]⟩,by rw [hw1,hw2];exact ObLe.refl _,trivial⟩,Env.below_mono hE (by simp),rfl,rfl⟩
  ·have c1':¬ v=1:=by simpa using c1
   rw [if_neg c1'] at h2
   refine ww ?_
   refine qAe (qAn (i:=1) hT rfl rfl rfl rfl rfl rfl (by show ((qAc out).length+1)*(56+1)≤_;omega)) rfl ?_
   refine ww ?_
   exact ⟨(b3,m,out++[⟨256+(out.length:Int),0,con,lev,rgt⟩]),[.row [.I (256+(out.length:Int)),.I 0,.d (.sl 1 (qAg con)),.I lev,.I rgt]],⟨hb3,h2,by simp only [List.length_append,List.length_singleton];omega⟩,by simp only;omega,⟨.refl _,AV.le.eq (by rw [hdone,hw1];rfl),.int hwm,trivial⟩,
    ⟨ObLe.refl _,⟨rfl,by rw [hdone,hw1]⟩,by rw [hw1];exact ObLe.refl _,trivial⟩,Env.below_mono hE (by simp),rfl,rfl⟩
 ·have h5':m=0:=by simp at h5;omega
  subst h5'
  simp only [qPb] at h2
  subst h2
  refine ww ?_
  exact qCy ⟨rfl,rfl⟩ rfl .dat rfl rfl rfl rfl
theorem qOg (L:List Int) (hL:L.length≤1000000) (a:Nat) (ha:a≤L.length) :
  Spec Tryz.prog 39 [.ptr 0 0] [.row (qAk L a),.room] (fun r h'=>r=.agg [.sl 5 (qAc (qRk L a).1) (.right 1),.d (.sl 2 (qAf (qRk L a).2.1))]∧h'=[.row (qAk L (qRk L a).2.2),.right 5 (qAc (qRk L a).1).length]):=by
 have hF:=qMz L hL a ha
 have hb1:=(filF_ok ha).2.2
 unfold qRk
 generalize qHn L a=p at hF hb1 ⊢
 obtain ⟨root,a1⟩:=p
 simp only at hF hb1 ⊢
 have hN:=qAq L hL a1 hb1 3 (by omega) (by omega)
 have hv:=nxV_range (L:=L) (a:=a1) (n:=3) (by omega)
 have hA:=nxA_le hb1
 generalize nxV L a1 3=m at hN hv ⊢
 generalize nxA L a1=a2 at hN hA ⊢
 obtain ⟨m,rfl⟩:∃ m':Nat,m=(m':Int):=⟨m.toNat,by omega⟩
 rw [Int.toNat_natCast]
 generalize hfin:apG L m [] a2=fin
 generalize qAc root=R at hF ⊢
 refine qAb hT Tryz.func39 rfl rfl rfl rfl ?_;intro E hE
 refine qAi ?_
 refine ww ?_
 refine qAe (qBn (v:=.sl 5 R (.right 1)) (H':=[.row (qAk L a1),.right 5 R.length,.room,.row [.sl 5 [] .full,.sl 2 [] .full]]) rfl rfl hF [0,1] (by decide) rfl rfl rfl rfl rfl rfl rfl) rfl ?_
 refine ww ?_
 refine qAe (qAr rfl rfl (hN) [0] (by decide) rfl rfl rfl rfl rfl rfl rfl) rfl ?_
 refine ww ?_
 refine qGa 4 1 2 2 (es:=[]) rfl rfl rfl ?_
 refine qAw (ι:=Nat×Nat×List Apk) (fun x=>[(0,.ptr 0 0),(2,.ptr 3 0),(3,.ptr 4 0),(4,.I (x.2.1:Int))])
  (fun x=>[.row (qAk L x.1),.right 5 R.length,.right 2 (qAf x.2.2).length,.row [.sl 5 [] .full,.sl 2 [] .full],.row [.sl 5 R (.right 1),.sl 2 (qAf x.2.2) (.right 2)]])
  (fun x=>x.1≤L.length∧apG L x.2.1 x.2.2 x.1=fin∧x.2.2.length+x.2.1≤2) (fun x=>x.2.1) (a2,m,[]) ⟨hA,hfin,by simp;omega⟩ yf (HLe.refl _) ?_
 rintro ⟨b,m,out⟩ ⟨h1,h2,h3⟩
 simp only at h1 h2 h3 ⊢
 have hol:=encApks_length out
 refine ww ?_
 refine qAa rfl (fun h5=>?_) (fun h5=>?_)
 ·obtain ⟨m,rfl⟩:∃ m',m=m'+1:=⟨m-1,by simp at h5;omega⟩
  have hF2:=qNa L hL b h1
  have hb2:=(filF_ok h1).2.2
  rw [apG] at h2
  generalize qHn L b=p at hF2 hb2 h2
  obtain ⟨fs,b2⟩:=p
  simp only at hF2 hb2 h2
  have hwm:IntKind.i64.wrap (((m+1:Nat):Int)-1)=(m:Int):=by rw [qAj (by omega)];omega
  have hdone:qAf (out++[⟨[160,bOf ((m+1:Nat):Int)],fs⟩])=qAf out++[[.sl 1 [[.int .u8 160],[.int .u8 (IntKind.u8.wrap ((m+1:Nat):Int))]],.sl 5 (qAc fs)]]:=by
   have hb:qAg [160,bOf ((m+1:Nat):Int)]=[[.int .u8 160],[.int .u8 (IntKind.u8.wrap ((m+1:Nat):Int))]]:=by
    show [Dat.int .u8 160]::qAg [bOf ((m+1:Nat):Int)]=_
    rw [bOf_u8]
   simp only [qAf,List.map_append,List.map_cons,List.map_nil,qEx,hb]
  refine wwn ?_
  refine qAy (fun i=>bif Nat.beq i 1 then [4] else bif Nat.beq i 6 then [0] else bif Nat.beq i 9 then [2] else bif Nat.beq i 11 then [4] else []) (fun i=>bif Nat.beq i 6 then [0] else bif Nat.beq i 9 then [2] else bif Nat.beq i 11 then [4] else []) mixed (by kernel_rfl) ?_
  refine wwg ?_
  refine qAm (os:=[]) (fun k hk1 hk2=>buildSl_ok hT rfl rfl) rfl ?_
  refine wwg ?_
  refine qAm (v:=.d (.sl 5 (qAc fs))) (os:=[.row (qAk L b2)]) (fun k hk1 hk2=>qAr rfl rfl hF2 [0] (by decide) (by show [k[0]?]=[some _];rw [hk2 0 List.mem_cons_self];rfl) rfl rfl rfl rfl rfl rfl) rfl ?_
  refine wwg ?_
  refine qAm (os:=[]) (fun k hk1 hk2=>buildSl_ok hT rfl rfl) rfl ?_
  refine wwg ?_
  refine qAm (v:=.sl 2 (qAf (out++[⟨[160,bOf ((m+1:Nat):Int)],fs⟩])) (.right 2)) (os:=[.right 2 (qAf (out++[⟨[160,bOf ((m+1:Nat):Int)],fs⟩])).length]) (fun k hk1 hk2=>by rw [hdone];exact qAn (i:=2) hT rfl rfl rfl rfl ((hk2 2 List.mem_cons_self).trans rfl) rfl (by show ((qAf out).length+1)*(48+1)≤_;omega)) rfl ?_
  refine wwg ?_
  refine wwn ?_
  exact ⟨(b2,m,out++[⟨[160,bOf ((m+1:Nat):Int)],fs⟩]),⟨hb2,h2,by simp only [List.length_append,List.length_singleton];omega⟩,by simp only;omega,⟨.refl _,.refl _,.refl _,.int hwm,trivial⟩,HLe.refl _⟩
 ·have h5':m=0:=by simp at h5;omega
  subst h5'
  simp only [apG] at h2
  subst h2
  refine ww ?_
  exact qCy ⟨rfl,rfl⟩ rfl (AV.le.agg ⟨.refl _,.dat,trivial⟩) rfl rfl rfl rfl
def qNx {α:Type} (p:α→Bool) (l:List α):Int:=match l.findIdx? p with
 | some i=>i
 | none=>-1
theorem fIdx_at {α:Type} {p:α→Bool} {l:List α} {k:Nat} (hk:k < l.length) (h:p l[k]=true) (hb:∀ j,(hj:j < k)→(hj2:j < l.length)→p l[j]=false):qNx p l=k:=by
 unfold qNx
 have:l.findIdx? p=some k:=by
  rw [List.findIdx?_eq_some_iff_getElem]
  exact ⟨hk,h,fun j hj=>by simpa using hb j hj (by omega)⟩
 rw [this]
theorem fIdx_none {α:Type} {p:α→Bool} {l:List α} (hb:∀ j,(hj:j < l.length)→p l[j]=false):qNx p l = -1:=by
 unfold qNx
 have:l.findIdx? p=none:=by
  rw [List.findIdx?_eq_none_iff]
  intro x hx
  obtain ⟨j,hj,rfl⟩:=List.mem_iff_getElem.1 hx
  simpa using hb j hj
 rw [this]
theorem fIdx_any {α:Type} (p:α→Bool) (l:List α):decide (qNx p l≥0)=l.any p:=by
 unfold qNx
 split
 ·rename_i i h
  obtain ⟨h1,h2,_⟩:=List.findIdx?_eq_some_iff_getElem.1 h
  have:l.any p=true:=List.any_eq_true.2 ⟨_,List.getElem_mem h1,h2⟩
  rw [this];simp
 ·rename_i h
  rw [List.findIdx?_eq_none_iff] at h
  have:l.any p=false:=by rw [List.any_eq_false];intro x hx;simpa using h x hx
  rw [this];decide
theorem qOh (a b:List UInt8):Spec Tryz.prog 88 [.d (.sl 1 (qAg a)),.d (.sl 1 (qAg b))] [] (fun r h'=>r=.d (.bool (a == b))∧h'=[]):=by
 refine qAb hT Tryz.func88 rfl rfl rfl rfl ?_;intro E hE
 refine ww ?_
 refine qBs hT rfl rfl (byteCells_encB a) ?_
 refine ww ?_
 refine qBs hT rfl rfl (byteCells_encB b) ?_
 rw [bytesOf_encB,bytesOf_encB]
 refine ww ?_
 exact wwr
end Tdoc
