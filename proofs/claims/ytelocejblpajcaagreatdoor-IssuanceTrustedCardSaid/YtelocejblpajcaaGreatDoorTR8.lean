/- Part 8 of the proof: the texts E12 E13 E14 E15 E16 E17 E18 E19 E20 E21 E22 E23 E24 E25 G1 G2 G3 RB0 J1 Y1 JA Y2. -/
import Derived.Test.YtelocejblpajcaaGreatDoorTR7
set_option linter.unusedVariables false
set_option linter.unusedSimpArgs false
set_option maxHeartbeats 8000000
set_option maxRecDepth 100000
namespace Tdoc
open Go Go.Proofs
def rdr (b:List UInt8) (st:Bool) (p c:Nat):List AV:=[.d (.sl 1 (qAj b)),.d (.int .i64 (p:Int)),.d (.bool st),.d (.int .i64 (c:Int))]
def qAr (b:List UInt8) (i:Nat):Nat:=(b.getD i 0).toNat
theorem byteAt_lt (b:List UInt8) (i:Nat):qAr b i < 256:=by unfold qAr;exact UInt8.toNat_lt _
theorem encB_byte {b:List UInt8} {i:Nat} (h:i < b.length):(qAj b)[i]?=some [.int .u8 (qAr b i:Int)]:=by
 rw [encB_at h];unfold qAr;rw [List.getD_eq_getElem?_getD,List.getElem?_eq_getElem h];rfl
theorem vLx {a x:Nat} (ha:a < 4294967296) (hx:x < 256) :
  IntKind.i64.wrap ((BitVec.ofInt IntKind.i64.bits (IntKind.i64.wrap ((a:Int)*2 ^ min (Int.toNat 8) IntKind.i64.bits)) ||| BitVec.ofInt IntKind.i64.bits (x:Int)).toNat:Int)=((a*256+x:Nat):Int):=by
 have h1:IntKind.i64.wrap ((a:Int)*2 ^ min (Int.toNat 8) IntKind.i64.bits)=((a*256:Nat):Int):=by
  show IntKind.i64.wrap ((a:Int)*256)=_
  rw [qAe (by omega)];omega
 rw [h1,vIv (by omega) (by omega)]
 have:=vCq a x 8 (by omega)
 rw [show (2:Nat) ^ 8=256 from rfl] at this
 rw [this]
def qJs (b:List UInt8) (e p:Nat):Int×Int×Nat :=
 if e≤p then (0,6,p)
 else if qAr b p % 32=31 then
  if e≤p+1 then (0,6,p+1)
  else if qCs ((qAr b p*256+qAr b (p+1):Nat):Int) then (((qAr b p*256+qAr b (p+1):Nat):Int),0,p+2) else (0,4,p+2)
 else if qCs (qAr b p:Int) then ((qAr b p:Int),0,p+1) else (0,4,p+1)
set_option maxHeartbeats 4000000 in
set_option maxRecDepth 100000 in
theorem vGh (b:List UInt8) (st:Bool) (e p c:Nat) (hb:b.length≤1000000) (he:e≤b.length) (hp:p≤e) :
  Spec Tryz.prog 382 [.ptr 0 0,.I (e:Int)] [.row (rdr b st p c)] (fun r h'=>r=.tup [.d (.int .i64 (qJs b e p).1),.d (.int .i64 (qJs b e p).2.1)]∧h'=[.row (rdr b st (qJs b e p).2.2 c)]):=by
 have hx:=byteAt_lt b p
 have hx1:=byteAt_lt b (p+1)
 have hw0:IntKind.i64.wrap (qAr b p:Int)=(qAr b p:Int):=qAe (by omega)
 have hw1:IntKind.i64.wrap (qAr b (p+1):Int)=(qAr b (p+1):Int):=qAe (by omega)
 have hwr:IntKind.i64.wrap ((p:Int)+1)=((p+1:Nat):Int):=by rw [qAe (by omega)];simp
 have hwr2:IntKind.i64.wrap (IntKind.i64.wrap ((p:Int)+1)+1)=((p+2:Nat):Int):=by rw [hwr,qAe (by omega)];omega
 have hlong:Spec Tryz.prog 385 [.I (IntKind.i64.wrap (qAr b p:Int))] [] (fun r h'=>r=.d (.bool ((qAr b p:Int) % 32 == 31))∧h'=[]):=by rw [hw0];exact qNt _ (by omega) (by omega)
 refine qAb hT Tryz.func382 rfl rfl rfl rfl ?_
 intro E hE
 unfold qJs
 refine ww ?_
 refine qAa rfl (fun h1=>?_) (fun h1=>?_)
 ·have h1':e≤p:=by simpa using h1
  rw [if_pos h1']
  refine ww ?_
  exact qAg rfl (.refl _) rfl rfl rfl rfl ⟨rfl,rfl⟩
 ·have h1':¬ e≤p:=by simpa using h1
  have hel:(qAj b)[((p:Int)).toNat]?=some [.int .u8 (qAr b p:Int)]:=encB_byte (by omega)
  rw [if_neg h1']
  refine ww ?_
  refine qBc (qAc (indexAddr_ok hT rfl rfl rfl rfl (by omega) hel)) rfl rfl ?_
  refine ww ?_
  refine qAd (qBl rfl rfl hlong rfl rfl rfl) rfl ?_
  refine ww ?_
  refine qAa rfl (fun h2=>?_) (fun h2=>?_)
  ·have h2':qAr b p % 32=31:=by simp at h2;omega
   rw [if_pos h2']
   refine ww ?_
   refine qAa rfl (fun h3=>?_) (fun h3=>?_)
   ·have h3':e≤p+1:=by rw [hwr] at h3;simp at h3;omega
    rw [if_pos h3']
    refine ww ?_
    exact qAg rfl (.refl _) rfl rfl rfl rfl ⟨rfl,by rw [hwr];rfl⟩
   ·have h3':¬ e≤p+1:=by rw [hwr] at h3;simp at h3;omega
    have hel1:(qAj b)[(IntKind.i64.wrap ((p:Int)+1)).toNat]?=some [.int .u8 (qAr b (p+1):Int)]:=by rw [hwr];exact encB_byte (by omega)
    rw [if_neg h3']
    refine ww ?_
    refine qBc (qAc (indexAddr_ok hT rfl rfl rfl rfl (by rw [hwr];omega) hel1)) rfl rfl ?_
    refine ww ?_
    have hj:IntKind.i64.wrap ((BitVec.ofInt IntKind.i64.bits (IntKind.i64.wrap (IntKind.i64.wrap (qAr b p:Int)*2 ^ min (Int.toNat 8) IntKind.i64.bits)) ||| BitVec.ofInt IntKind.i64.bits (IntKind.i64.wrap (qAr b (p+1):Int))).toNat:Int)=((qAr b p*256+qAr b (p+1):Nat):Int):=by rw [hw0,hw1];exact vLx (by omega) hx1
    generalize hvv:IntKind.i64.wrap ((BitVec.ofInt IntKind.i64.bits (IntKind.i64.wrap (IntKind.i64.wrap (qAr b p:Int)*2 ^ min (Int.toNat 8) IntKind.i64.bits)) ||| BitVec.ofInt IntKind.i64.bits (IntKind.i64.wrap (qAr b (p+1):Int))).toNat:Int)=vv at hj
    have hvalid:Spec Tryz.prog 345 [.I vv] [] (fun r h'=>r=.d (.bool (qCs vv))∧h'=[]):=qJd vv (by omega)
    rw [← hj]
    generalize qCs vv=ok at hvalid
    refine qAd (qBl rfl rfl hvalid rfl rfl rfl) rfl ?_
    refine ww ?_
    refine qAa rfl (fun h4=>?_) (fun h4=>?_)
    ·have h4':¬ ok=true:=by simpa using h4
     rw [if_neg h4']
     refine ww ?_
     exact qAg rfl (.refl _) rfl rfl rfl rfl ⟨rfl,by rw [hwr2];rfl⟩
    ·have h4':ok=true:=by simpa using h4
     rw [if_pos h4']
     refine ww ?_
     exact qAg rfl (.refl _) rfl rfl rfl rfl ⟨rfl,by rw [hwr2];rfl⟩
  ·have h2':¬ qAr b p % 32=31:=by simp at h2;omega
   have hvalid:Spec Tryz.prog 345 [.I (IntKind.i64.wrap (qAr b p:Int))] [] (fun r h'=>r=.d (.bool (qCs (qAr b p:Int)))∧h'=[]):=by rw [hw0];exact qJd _ (by omega)
   rw [if_neg h2']
   generalize qCs (qAr b p:Int)=ok at hvalid
   refine ww ?_
   refine qAd (qBl rfl rfl hvalid rfl rfl rfl) rfl ?_
   refine ww ?_
   refine qAa rfl (fun h4=>?_) (fun h4=>?_)
   ·have h4':¬ ok=true:=by simpa using h4
    rw [if_neg h4']
    refine ww ?_
    exact qAg rfl (.refl _) rfl rfl rfl rfl ⟨rfl,by rw [hwr];rfl⟩
   ·have h4':ok=true:=by simpa using h4
    rw [if_pos h4']
    refine ww ?_
    exact qAg (r:=.tup [.I (qAr b p:Int),.I 0]) rfl (AV.le.tup ⟨AV.le.eq (congrArg (fun z=>AV.d (.int .i64 z)) hw0),.refl _,trivial⟩) rfl rfl rfl rfl ⟨rfl,by rw [hwr];rfl⟩
def qWo (b:List UInt8):Nat→Nat→Nat→Nat
 | _,0,a=>a
 | p,k+1,a=>qWo b (p+1) k (a*256+qAr b p)
theorem numB_lt (b:List UInt8):∀ (k p a m:Nat),a < 256 ^ m→qWo b p k a < 256 ^ (m+k)
 | 0,p,a,m,h=>h
 | k+1,p,a,m,h=>by
  have hx:=byteAt_lt b p
  have h1:a*256+qAr b p < 256 ^ (m+1):=by rw [Nat.pow_succ];omega
  have h2:=numB_lt b k (p+1) _ (m+1) h1
  rw [qWo,show m+(k+1)=m+1+k by omega];exact h2
def qPa (b:List UInt8) (e:Nat) (op st:Bool) (p:Nat):Int×Int×Nat :=
 if e≤p then (0,6,p)
 else if qAr b p < 128 then ((qAr b p:Int),0,p+1)
 else if 132 < qAr b p∨(qAr b p=128∧op=false) then (0,5,p+1)
 else if qAr b p=128 then (-1,0,p+1)
 else if e < p+1+qAr b p % 16 then (0,6,p+1)
 else if st=true∧(qWo b (p+1) (qAr b p % 16) 0 < 128∨qWo b (p+1) (qAr b p % 16) 0 / 2 ^ (8*(qAr b p % 16-1))=0) then (0,5,p+1+qAr b p % 16)
 else ((qWo b (p+1) (qAr b p % 16) 0:Int),0,p+1+qAr b p % 16)
set_option maxHeartbeats 4000000 in
set_option maxRecDepth 100000 in
theorem vHb (b:List UInt8) (op st:Bool) (e p c:Nat) (hb:b.length≤1000000) (he:e≤b.length) (hp:p≤e) :
  Spec Tryz.prog 383 [.ptr 0 0,.I (e:Int),.d (.bool op)] [.row (rdr b st p c)] (fun r h'=>r=.tup [.d (.int .i64 (qPa b e op st p).1),.d (.int .i64 (qPa b e op st p).2.1)]∧h'=[.row (rdr b st (qPa b e op st p).2.2 c)]):=by
 have hx:=byteAt_lt b p
 have hw0:IntKind.i64.wrap (qAr b p:Int)=(qAr b p:Int):=qAe (by omega)
 have hwr:IntKind.i64.wrap ((p:Int)+1)=((p+1:Nat):Int):=by rw [qAe (by omega)];simp
 have hand:IntKind.i64.wrap ((BitVec.ofInt IntKind.i64.bits (IntKind.i64.wrap (qAr b p:Int)) &&& BitVec.ofInt IntKind.i64.bits (15:Int)).toNat:Int)=((qAr b p % 16:Nat):Int):=by
  rw [hw0]
  have:=qSh (a:=qAr b p) (b:=15) (by omega) (by omega)
  rw [qRh (qAr b p) 4] at this
  exact this
 refine qAb hT Tryz.func383 rfl rfl rfl rfl ?_
 intro E hE
 unfold qPa
 refine ww ?_
 refine qAa rfl (fun h1=>?_) (fun h1=>?_)
 ·have h1':e≤p:=by simpa using h1
  rw [if_pos h1']
  refine ww ?_
  exact qAg rfl (.refl _) rfl rfl rfl rfl ⟨rfl,rfl⟩
 ·have h1':¬ e≤p:=by simpa using h1
  have hel:(qAj b)[((p:Int)).toNat]?=some [.int .u8 (qAr b p:Int)]:=encB_byte (by omega)
  rw [if_neg h1']
  refine ww ?_
  refine qBc (qAc (indexAddr_ok hT rfl rfl rfl rfl (by omega) hel)) rfl rfl ?_
  refine ww ?_
  refine qAa rfl (fun h2=>?_) (fun h2=>?_)
  ·have h2':qAr b p < 128:=by rw [hw0] at h2;simp at h2;omega
   rw [if_pos h2']
   refine ww ?_
   exact qAg (r:=.tup [.I (qAr b p:Int),.I 0]) rfl (AV.le.tup ⟨AV.le.eq (congrArg (fun z=>AV.d (.int .i64 z)) hw0),.refl _,trivial⟩) rfl rfl rfl rfl ⟨rfl,by rw [hwr];rfl⟩
  ·have h2':¬ qAr b p < 128:=by rw [hw0] at h2;simp at h2;omega
   rw [if_neg h2']
   refine ww ?_
   refine qAa rfl (fun h3=>?_) (fun h3=>?_)
   ·have h3':132 < qAr b p:=by rw [hw0] at h3;simp at h3;omega
    rw [if_pos (.inl h3')]
    refine ww ?_
    refine qAa rfl (fun h4=>?_) (fun h4=>?_)
    ·refine ww ?_
     exact qAg rfl (.refl _) rfl rfl rfl rfl ⟨rfl,by rw [hwr];rfl⟩
    ·exact absurd (h3.symm.trans h4) (by simp)
   ·have h3':¬ 132 < qAr b p:=by rw [hw0] at h3;simp at h3;omega
    refine ww ?_
    refine qAa rfl (fun h4=>?_) (fun h4=>?_)
    ·have h4':qAr b p=128∧op=false:=by rw [hw0] at h4;simp at h4;exact ⟨by omega,h4.2⟩
     rw [if_pos (.inr h4')]
     refine ww ?_
     exact qAg rfl (.refl _) rfl rfl rfl rfl ⟨rfl,by rw [hwr];rfl⟩
    ·have h4':¬ (qAr b p=128∧op=false):=by rintro ⟨ha,hb'⟩;rw [hw0,ha,hb'] at h4;simp at h4
     rw [if_neg (fun hh=>hh.elim h3' h4')]
     refine ww ?_
     refine qAa rfl (fun h5=>?_) (fun h5=>?_)
     ·have h5':qAr b p=128:=by rw [hw0] at h5;simp at h5;omega
      rw [if_pos h5']
      refine ww ?_
      exact qAg rfl (.refl _) rfl rfl rfl rfl ⟨rfl,by rw [hwr];rfl⟩
     ·have h5':¬ qAr b p=128:=by rw [hw0] at h5;simp at h5;omega
      rw [if_neg h5']
      have hk1:1≤qAr b p % 16∧qAr b p % 16≤4:=by omega
      generalize hks:qAr b p % 16=ks at hand hk1
      refine ww ?_
      rw [hand]
      have hws:IntKind.i64.wrap ((e:Int)-IntKind.i64.wrap ((p:Int)+1))=(e:Int)-((p+1:Nat):Int):=by rw [hwr,qAe (by omega)]
      refine qAa rfl (fun h6=>?_) (fun h6=>?_)
      ·have h6':e < p+1+ks:=by rw [hws] at h6;simp at h6;omega
       rw [if_pos h6']
       refine ww ?_
       exact qAg rfl (.refl _) rfl rfl rfl rfl ⟨rfl,by rw [hwr];rfl⟩
      ·have h6':¬ e < p+1+ks:=by rw [hws] at h6;simp at h6;omega
       rw [if_neg h6']
       have hfl:=numB_lt b ks (p+1) 0 0 (by simp)
       have hpw:256 ^ (0+ks)≤256 ^ 4:=Nat.pow_le_pow_right (by omega) (by omega)
       generalize hfin:qWo b (p+1) ks 0=fin at hfl
       refine ww ?_
       refine qAq (ι:=Nat×Nat) (fun x=>[(0,.ptr 0 0),(9,.I (ks:Int)),(10,.I (x.2:Int)),(61,.I (ks:Int)),(62,.I (x.1:Int))]) (fun x=>[.row (rdr b st (p+1+x.1) c)])
        (fun x=>x.1≤ks∧qWo b (p+1+x.1) (ks-x.1) x.2=fin∧x.2 < 256 ^ x.1) (fun x=>ks-x.1) (0,0) ⟨by omega,hfin,by simp⟩ q1 ⟨⟨.refl _,AV.le.eq (by rw [hwr];rfl),.refl _,.refl _,trivial⟩,trivial⟩ ?_
       rintro ⟨i,acc⟩ ⟨hi,hg,hac⟩
       simp only at hi hg hac ⊢
       have hwi:IntKind.i64.wrap ((i:Int)+1)=((i+1:Nat):Int):=by rw [qAe (by omega)];simp
       refine ww ?_
       refine qAa rfl (fun h7=>?_) (fun h7=>?_)
       ·have h7':i < ks:=by simpa using h7
        have hxi:=byteAt_lt b (p+1+i)
        have hwp:IntKind.i64.wrap (((p+1+i:Nat):Int)+1)=((p+1+(i+1):Nat):Int):=by rw [qAe (by omega)];omega
        have hwx:IntKind.i64.wrap (qAr b (p+1+i):Int)=(qAr b (p+1+i):Int):=qAe (by omega)
        have hel1:(qAj b)[((p+1+i:Nat):Int).toNat]?=some [.int .u8 (qAr b (p+1+i):Int)]:=by rw [Int.toNat_natCast];exact encB_byte (by omega)
        have hp3:256 ^ i≤256 ^ 3:=Nat.pow_le_pow_right (by omega) (by omega)
        have hj:IntKind.i64.wrap ((BitVec.ofInt IntKind.i64.bits (IntKind.i64.wrap ((acc:Int)*2 ^ min (Int.toNat 8) IntKind.i64.bits)) ||| BitVec.ofInt IntKind.i64.bits (IntKind.i64.wrap (qAr b (p+1+i):Int))).toNat:Int)=((acc*256+qAr b (p+1+i):Nat):Int):=by rw [hwx];exact vLx (by omega) hxi
        rw [show ks-i=(ks-(i+1))+1 by omega,qWo] at hg
        refine ww ?_
        refine qBc (qAc (indexAddr_ok hT rfl rfl rfl rfl (by omega) hel1)) rfl rfl ?_
        refine ww ?_
        exact ⟨(i+1,acc*256+qAr b (p+1+i)),⟨by simp only;omega,hg,by simp only;rw [Nat.pow_succ];omega⟩,by simp only;omega,⟨.refl _,.refl _,AV.le.eq (congrArg (fun z=>AV.d (.int .i64 z)) hj),.refl _,AV.le.eq (congrArg (fun z=>AV.d (.int .i64 z)) hwi),trivial⟩,⟨⟨.refl _,AV.le.eq (congrArg (fun z=>AV.d (.int .i64 z)) hwp),.refl _,.refl _,trivial⟩,trivial⟩⟩
       ·have h7':i=ks:=by simp at h7;omega
        subst h7'
        rw [Nat.sub_self,qWo] at hg
        subst hg
        refine ww ?_
        have hws8:IntKind.i64.wrap (8*IntKind.i64.wrap ((i:Int)-1))=((8*(i-1):Nat):Int):=by rw [qAe (n:=(i:Int)-1) (by omega),qAe (by omega)];omega
        have hsh:Int.fdiv (acc:Int) (2 ^ min (IntKind.i64.wrap (8*IntKind.i64.wrap ((i:Int)-1))).toNat IntKind.i64.bits)=((acc / 2 ^ (8*(i-1)):Nat):Int):=by
         rw [hws8,Int.toNat_natCast,show min (8*(i-1)) IntKind.i64.bits=8*(i-1) from Nat.min_eq_left (by show _≤64;omega)]
         exact qDy acc _
        refine qVj hT rfl rfl rfl rfl (fun hg=>⟨⟨hg,hg,True.intro⟩,by rw [hws8];omega⟩) ?_
        refine ww ?_
        refine qAa rfl (fun h8=>?_) (fun h8=>?_)
        ·have h8':st=true∧(acc < 128∨acc / 2 ^ (8*(i-1))=0):=by
          rw [hsh] at h8
          simp only [Bool.and_eq_true,Bool.or_eq_true,decide_eq_true_eq,beq_iff_eq] at h8
          exact ⟨h8.1,h8.2.imp (fun h=>by omega) (fun h=>by omega)⟩
         rw [if_pos h8']
         refine ww ?_
         exact qAg rfl (.refl _) rfl rfl rfl rfl ⟨rfl,rfl⟩
        ·have h8':¬ (st=true∧(acc < 128∨acc / 2 ^ (8*(i-1))=0)):=by
          rintro ⟨g1,g2⟩
          have:(st&&(decide ((acc:Int) < 128)||(Int.fdiv (acc:Int) (2 ^ min (IntKind.i64.wrap (8*IntKind.i64.wrap ((i:Int)-1))).toNat IntKind.i64.bits) == 0)))=true:=by
           rw [hsh]
           simp only [Bool.and_eq_true,Bool.or_eq_true,decide_eq_true_eq,beq_iff_eq]
           exact ⟨g1,g2.imp (fun h=>by omega) (fun h=>by omega)⟩
          exact absurd (this.symm.trans h8) (by simp)
         rw [if_neg h8']
         refine ww ?_
         exact qAg rfl (.refl _) rfl rfl rfl rfl ⟨rfl,rfl⟩
abbrev Rd:=Nat→Nat→Node×Int×Nat×Nat
def qIh:Node→List AV
 | .mk t v k=>[.d (.int .i64 t),.d (.sl 1 (qAj v)),.d (.sl 3 (encNs k))]
def qEl (f:Rd) (e:Nat):Nat→Nat→Nat→List Node→List Node×Int×Nat×Nat
 | 0,p,c,out=>(out,0,p,c)
 | m+1,p,c,out=>if p < e then (if (f p c).2.1≠0 then ([],(f p c).2) else qEl f e m (f p c).2.2.1 (f p c).2.2.2 (out++[(f p c).1])) else (out,0,p,c)
def qIi (b:List UInt8) (f:Rd) (e:Nat):Nat→Nat→Nat→List Node→List Node×Int×Nat×Nat
 | 0,p,c,out=>([],6,p,c)
 | m+1,p,c,out=>if e≤p∨(qAr b p=0∧e≤p+1) then ([],6,p,c) else if qAr b p=0∧qAr b (p+1)=0 then (out,0,p+2,c)
  else (if (f p c).2.1≠0 then ([],(f p c).2) else qIi b f e m (f p c).2.2.1 (f p c).2.2.2 (out++[(f p c).1]))
def RdOk (f:Rd) (e:Nat):Prop:=∀ p c,p≤e→c≤256→p≤(f p c).2.2.1∧(f p c).2.2.1≤e∧(f p c).2.2.2≤257∧((f p c).2.1=0→p < (f p c).2.2.1∧(f p c).2.2.2≤256)
theorem loopX_ok {f:Rd} {e:Nat} (hf:RdOk f e):∀ (m p c:Nat) (out:List Node),p≤e→c≤256→p≤(qEl f e m p c out).2.2.1∧(qEl f e m p c out).2.2.1≤e∧(qEl f e m p c out).2.2.2≤257∧((qEl f e m p c out).2.1=0→(qEl f e m p c out).2.2.2≤256)
 | 0,p,c,out,hp,hc=>⟨Nat.le_refl _,hp,by show c≤257;omega,fun _=>hc⟩
 | m+1,p,c,out,hp,hc=>by
  have h:=hf p c hp hc
  rw [qEl]
  split
  ·split
   ·rename_i h2
    exact ⟨h.1,h.2.1,h.2.2.1,fun h0=>absurd h0 h2⟩
   ·rename_i h2
    have h3:=h.2.2.2 (by simpa using h2)
    have:=loopX_ok hf m _ (f p c).2.2.2 (out++[(f p c).1]) h.2.1 h3.2
    exact ⟨by omega,this.2⟩
  ·exact ⟨Nat.le_refl _,hp,by show c≤257;omega,fun _=>hc⟩
theorem kidsX_ok {b:List UInt8} {f:Rd} {e:Nat} (hf:RdOk f e):∀ (m p c:Nat) (out:List Node),p≤e→c≤256→p≤(qIi b f e m p c out).2.2.1∧(qIi b f e m p c out).2.2.1≤e∧(qIi b f e m p c out).2.2.2≤257∧((qIi b f e m p c out).2.1=0→(qIi b f e m p c out).2.2.2≤256)
 | 0,p,c,out,hp,hc=>⟨Nat.le_refl _,hp,by show c≤257;omega,fun _=>hc⟩
 | m+1,p,c,out,hp,hc=>by
  have h:=hf p c hp hc
  rw [qIi]
  split
  ·exact ⟨Nat.le_refl _,hp,by show c≤257;omega,fun _=>hc⟩
  ·rename_i h0
   split
   ·exact ⟨by show p≤p+2;omega,by show p+2≤e;omega,by show c≤257;omega,fun _=>hc⟩
   ·split
    ·rename_i h2
     exact ⟨h.1,h.2.1,h.2.2.1,fun h0=>absurd h0 h2⟩
    ·rename_i h2
     have h3:=h.2.2.2 (by simpa using h2)
     have:=kidsX_ok (b:=b) hf m _ (f p c).2.2.2 (out++[(f p c).1]) h.2.1 h3.2
     exact ⟨by omega,this.2⟩
set_option maxRecDepth 100000 in
theorem qOt (es:List (List Dat)) (hl:es.length≤2000000) :
  Spec Tryz.prog 66 [.d (.sl 1 es)] [] (fun r h'=>r=.d (.sl 1 es)∧h'=[]):=by
 refine qAb hT Tryz.func66 rfl rfl rfl rfl ?_
 intro E hE
 refine ww ?_
 refine qCr (eqNil_ok hT (fun _=>rfl) rfl rfl rfl) rfl ?_
 rintro v h' ⟨rfl,b,rfl,hb⟩
 refine ww ?_
 refine qAa rfl (fun h1=>?_) (fun h1=>?_)
 ·obtain rfl:=hb h1
  refine ww ?_
  exact qAg rfl AV.le.nils rfl rfl rfl rfl ⟨rfl,rfl⟩
 ·refine ww ?_
  refine qAd (qCz (es:=[]) hT rfl rfl rfl (.inl rfl) rfl (by show (([]:List (List Dat)).length+es.length)*(1+1)≤140737488355328;simp;omega)) rfl ?_
  refine ww ?_
  exact qAg rfl (.refl _) rfl rfl rfl rfl ⟨rfl,rfl⟩
def ObjS (b:List UInt8) (st:Bool) (f:Rd) (e d:Nat):Prop:=∀ p c,p≤e→c≤256→Spec Tryz.prog 342 [.ptr 0 0,.d (.int .i64 (e:Int)),.d (.int .i64 (d:Int))] [.row (rdr b st p c)]
 (fun r h'=>r=.tup [.agg (qIh (f p c).1),.d (.int .i64 (f p c).2.1)]∧h'=[.row (rdr b st (f p c).2.2.1 (f p c).2.2.2)])
theorem qLv (b:List UInt8) (st:Bool) (f:Rd) (e d:Nat) (hb:b.length≤1000000) (he:e≤b.length) (hd:d≤100) (hf:RdOk f e) (H:ObjS b st f e d) (p c m:Nat) (hp:p≤e) (hc:c≤256) (hm:e < p+m) :
  Spec Tryz.prog 274 [.ptr 0 0,.I (e:Int),.I (d:Int)] [.row (rdr b st p c)]
   (fun r h'=>r=.tup [.d (.sl 3 (encNs (qEl f e m p c []).1)),.d (.int .i64 (qEl f e m p c []).2.1)]∧h'=[.row (rdr b st (qEl f e m p c []).2.2.1 (qEl f e m p c []).2.2.2)]):=by
 refine qAb hT Tryz.func274 rfl rfl rfl rfl ?_
 intro E hE
 generalize hfin:qEl f e m p c []=fin
 refine qAo ?_
 refine qAl (qAf ?_)
 refine wws ?_
 refine qAl (qAf ?_)
 refine wws ?_
 refine qBb 8 3 1 (es:=[]) (.inr ⟨rfl,rfl⟩) rfl ?_
 refine ww ?_
 refine qBg (ι:=Nat×Nat×Nat×List Node) (fun x=>[(0,.ptr 0 0),(1,.I (e:Int)),(2,.I (d:Int)),(8,.sl 3 (encNs x.2.2.2) (.right 1))]) (fun x=>[.row (rdr b st x.1 x.2.1),.right 3 (encNs x.2.2.2).length])
  (fun x=>x.1≤e∧x.2.1≤256∧e < x.1+x.2.2.1∧x.2.2.2.length≤x.1∧qEl f e x.2.2.1 x.1 x.2.1 x.2.2.2=fin) (fun x=>e-x.1) (p,c,m,[]) ⟨hp,hc,hm,by simp,hfin⟩ q1 q1 ?_
 rintro ⟨p,c,m,out⟩ ⟨hp,hc,hm,ho,hg⟩
 simp only at hp hc hm ho hg ⊢
 have hol:=encNs_length out
 refine ww ?_
 refine qAa rfl (fun h1=>?_) (fun h1=>?_)
 ·have h1':p < e:=by simpa using h1
  obtain ⟨m,rfl⟩:∃ m',m=m'+1:=⟨m-1,by omega⟩
  have hob:=H p c hp hc
  have hok:=hf p c hp hc
  rw [qEl,if_pos h1'] at hg
  generalize f p c=q at hob hok hg
  obtain ⟨⟨t,v,k⟩,er,p',c'⟩:=q
  simp only [qIh] at hob hok hg
  refine ww ?_
  refine qAd (qGd rfl rfl hob [0] (by decide) rfl rfl rfl rfl rfl rfl rfl) rfl ?_
  refine ww ?_
  refine qAa rfl (fun h2=>?_) (fun h2=>?_)
  ·have h2':er≠0:=by simpa using h2
   rw [if_pos h2'] at hg
   subst hg
   refine ww ?_
   exact qAg (r:=.tup [.d (.sl 3 (encNs [])),.I er]) rfl (AV.le.tup ⟨AV.le.nils,.refl _,trivial⟩) rfl rfl rfl rfl ⟨rfl,rfl⟩
  ·have h2':¬ er≠0:=by simpa using h2
   have hok2:=hok.2.2.2 (by simpa using h2)
   rw [if_neg h2'] at hg
   refine ww ?_
   refine qAd (qAh (i:=1) hT rfl rfl rfl rfl rfl rfl (by show ((encNs out).length+1)*(56+1)≤_;omega)) rfl ?_
   refine ww ?_
   have hres:encNs (out++[.mk t v k])=encNs out++[qIc (.mk t v k)]:=by rw [encNs_append];rfl
   exact ⟨(p',c',m,out++[.mk t v k]),[_],⟨hok.2.1,hok2.2,by simp only;omega,by simp only [List.length_append,List.length_singleton];omega,hg⟩,by simp only;omega,⟨.refl _,.refl _,.refl _,AV.le.eq (by rw [hres];rfl),trivial⟩,⟨ObLe.refl _,⟨rfl,by rw [hres];rfl⟩,ObLe.refl _,trivial⟩,Env.below_mono hE (by simp),rfl,rfl⟩
 ·have h1':¬ p < e:=by simpa using h1
  have hgf:(out,(0:Int),p,c)=fin:=by
   rw [← hg]
   cases m with
   | zero=>rfl
   | succ m=>rw [qEl,if_neg h1']
  subst hgf
  refine ww ?_
  exact qAg (r:=.tup [.d (.sl 3 (encNs out)),.I 0]) rfl (AV.le.tup ⟨AV.le.dat,.refl _,trivial⟩) rfl rfl rfl rfl ⟨rfl,rfl⟩
theorem vDq (b:List UInt8) (st:Bool) (f:Rd) (e d:Nat) (hb:b.length≤1000000) (he:e≤b.length) (hd:d≤100) (hf:RdOk f e) (H:ObjS b st f e d) (p c m:Nat) (hp:p≤e) (hc:c≤256) (hm:e < p+m) :
  Spec Tryz.prog 384 [.ptr 0 0,.I (e:Int),.I (d:Int)] [.row (rdr b st p c)]
   (fun r h'=>r=.tup [.d (.sl 3 (encNs (qIi b f e m p c []).1)),.d (.int .i64 (qIi b f e m p c []).2.1)]∧h'=[.row (rdr b st (qIi b f e m p c []).2.2.1 (qIi b f e m p c []).2.2.2)]):=by
 refine qAb hT Tryz.func384 rfl rfl rfl rfl ?_
 intro E hE
 generalize hfin:qIi b f e m p c []=fin
 refine qAo ?_
 refine qAl (qAf ?_)
 refine wws ?_
 refine qAl (qAf ?_)
 refine wws ?_
 refine qBb 8 3 1 (es:=[]) (.inr ⟨rfl,rfl⟩) rfl ?_
 refine qDt ?_
 refine qBg (ι:=Nat×Nat×Nat×List Node) (fun x=>[(0,.ptr 0 0),(1,.I (e:Int)),(2,.I (d:Int)),(8,.sl 3 (encNs x.2.2.2) (.right 1))]) (fun x=>[.row (rdr b st x.1 x.2.1),.right 3 (encNs x.2.2.2).length])
  (fun x=>x.1≤e∧x.2.1≤256∧e < x.1+x.2.2.1∧x.2.2.2.length≤x.1∧qIi b f e x.2.2.1 x.1 x.2.1 x.2.2.2=fin) (fun x=>e-x.1) (p,c,m,[]) ⟨hp,hc,hm,by simp,hfin⟩ q1 q1 ?_
 rintro ⟨p,c,m,out⟩ ⟨hp,hc,hm,ho,hg⟩
 simp only at hp hc hm ho hg ⊢
 have hol:=encNs_length out
 obtain ⟨m,rfl⟩:∃ m',m=m'+1:=⟨m-1,by omega⟩
 rw [qIi] at hg
 have hwr:IntKind.i64.wrap ((p:Int)+1)=((p+1:Nat):Int):=by rw [qAe (by omega)];simp
 have hwr2:IntKind.i64.wrap ((p:Int)+2)=((p+2:Nat):Int):=by rw [qAe (by omega)];simp
 have hx:=byteAt_lt b p
 have hx1:=byteAt_lt b (p+1)
 refine ww ?_
 refine qDr rfl rfl rfl rfl (fun hg=>⟨⟨hg,hg,True.intro⟩,qAc (indexAddr_ok hT rfl rfl rfl rfl (by omega) (show (qAj b)[((p:Int)).toNat]?=some [.int .u8 (qAr b p:Int)] from encB_byte (by simp [gval] at hg;omega)))⟩) ?_
 refine ww ?_
 refine qAa rfl (fun h1=>?_) (fun h1=>?_)
 ·have h1':e≤p∨(qAr b p=0∧e≤p+1):=by
   rw [hwr] at h1
   simp only [Bool.or_eq_true,Bool.and_eq_true,decide_eq_true_eq,beq_iff_eq] at h1
   omega
  rw [if_pos h1'] at hg
  subst hg
  refine ww ?_
  exact qAg (r:=.tup [.d (.sl 3 (encNs [])),.I 6]) rfl (AV.le.tup ⟨AV.le.nils,.refl _,trivial⟩) rfl rfl rfl rfl ⟨rfl,rfl⟩
 ·have h1':¬ (e≤p∨(qAr b p=0∧e≤p+1)):=by
   intro hh
   have:(decide ((p:Int)≥(e:Int))||(qAr b p:Int) == 0&&decide (IntKind.i64.wrap ((p:Int)+1)≥(e:Int)))=true:=by
    rw [hwr]
    simp only [Bool.or_eq_true,Bool.and_eq_true,decide_eq_true_eq,beq_iff_eq]
    omega
   exact absurd (this.symm.trans h1) (by simp)
  rw [if_neg h1'] at hg
  have hel:(qAj b)[((p:Int)).toNat]?=some [.int .u8 (qAr b p:Int)]:=encB_byte (by omega)
  refine ww ?_
  refine qBc (qAc (indexAddr_ok hT rfl rfl rfl rfl (by omega) hel)) rfl rfl ?_
  refine ww ?_
  refine qDr rfl rfl rfl rfl (fun hg=>⟨⟨hg,hg,True.intro⟩,qAc (indexAddr_ok hT rfl rfl rfl rfl (by rw [hwr];omega) (show (qAj b)[(IntKind.i64.wrap ((p:Int)+1)).toNat]?=some [.int .u8 (qAr b (p+1):Int)] from by rw [hwr];exact encB_byte (by simp [gval] at hg;omega)))⟩) ?_
  refine ww ?_
  refine qAa rfl (fun h2=>?_) (fun h2=>?_)
  ·have h2':qAr b p=0∧qAr b (p+1)=0:=by
    simp only [Bool.and_eq_true,beq_iff_eq] at h2
    omega
   rw [if_pos h2'] at hg
   subst hg
   refine ww ?_
   exact qAg (r:=.tup [.d (.sl 3 (encNs out)),.I 0]) rfl (AV.le.tup ⟨AV.le.dat,.refl _,trivial⟩) rfl rfl rfl rfl ⟨rfl,by rw [hwr2];rfl⟩
  ·have h2':¬ (qAr b p=0∧qAr b (p+1)=0):=by
    intro hh
    have:((qAr b p:Int) == 0&&(qAr b (p+1):Int) == 0)=true:=by
     simp only [Bool.and_eq_true,beq_iff_eq]
     omega
    exact absurd (this.symm.trans h2) (by simp)
   rw [if_neg h2'] at hg
   have hob:=H p c hp hc
   have hok:=hf p c hp hc
   generalize f p c=q at hob hok hg
   obtain ⟨⟨t,v,k⟩,er,p',c'⟩:=q
   simp only [qIh] at hob hok hg
   refine ww ?_
   refine qAd (qGd rfl rfl hob [0] (by decide) rfl rfl rfl rfl rfl rfl rfl) rfl ?_
   refine ww ?_
   refine qAa rfl (fun h3=>?_) (fun h3=>?_)
   ·have h3':er≠0:=by simpa using h3
    rw [if_pos h3'] at hg
    subst hg
    refine ww ?_
    exact qAg (r:=.tup [.d (.sl 3 (encNs [])),.I er]) rfl (AV.le.tup ⟨AV.le.nils,.refl _,trivial⟩) rfl rfl rfl rfl ⟨rfl,rfl⟩
   ·have h3':¬ er≠0:=by simpa using h3
    have hok2:=hok.2.2.2 (by simpa using h3)
    rw [if_neg h3'] at hg
    refine ww ?_
    refine qAd (qAh (i:=1) hT rfl rfl rfl rfl rfl rfl (by show ((encNs out).length+1)*(56+1)≤_;omega)) rfl ?_
    refine ww ?_
    have hres:encNs (out++[.mk t v k])=encNs out++[qIc (.mk t v k)]:=by rw [encNs_append];rfl
    exact ⟨(p',c',m,out++[.mk t v k]),[_],⟨hok.2.1,hok2.2,by simp only;omega,by simp only [List.length_append,List.length_singleton];omega,hg⟩,by simp only;omega,⟨.refl _,.refl _,.refl _,AV.le.eq (by rw [hres];rfl),trivial⟩,⟨ObLe.refl _,⟨rfl,by rw [hres];rfl⟩,ObLe.refl _,trivial⟩,Env.below_mono hE (by simp),rfl,rfl⟩
theorem tagX_ok (b:List UInt8) {e p:Nat} (hp:p≤e):p≤(qJs b e p).2.2∧(qJs b e p).2.2≤e∧((qJs b e p).2.1=0→p < (qJs b e p).2.2)∧0≤(qJs b e p).1∧(qJs b e p).1 < 65536:=by
 have hx:=byteAt_lt b p
 have hx1:=byteAt_lt b (p+1)
 unfold qJs
 split
 ·exact ⟨Nat.le_refl _,hp,fun h=>by simp at h,by simp,by simp⟩
 ·split
  ·split
   ·exact ⟨by show p≤p+1;omega,by show p+1≤e;omega,fun h=>by simp at h,by simp,by simp⟩
   ·split
    ·exact ⟨by show p≤p+2;omega,by show p+2≤e;omega,fun h=>by show p < p+2;omega,by show (0:Int)≤((_:Nat):Int);omega,by show ((_:Nat):Int) < 65536;omega⟩
    ·exact ⟨by show p≤p+2;omega,by show p+2≤e;omega,fun h=>by simp at h,by simp,by simp⟩
  ·split
   ·exact ⟨by show p≤p+1;omega,by show p+1≤e;omega,fun h=>by show p < p+1;omega,by show (0:Int)≤((_:Nat):Int);omega,by show ((_:Nat):Int) < 65536;omega⟩
   ·exact ⟨by show p≤p+1;omega,by show p+1≤e;omega,fun h=>by simp at h,by simp,by simp⟩
theorem lenX_ok (b:List UInt8) {e p:Nat} (op st:Bool) (hp:p≤e):p≤(qPa b e op st p).2.2∧(qPa b e op st p).2.2≤e∧((qPa b e op st p).2.1=0→p < (qPa b e op st p).2.2)∧-1≤(qPa b e op st p).1∧(qPa b e op st p).1 < 4294967296:=by
 have hx:=byteAt_lt b p
 unfold qPa
 split
 ·exact ⟨Nat.le_refl _,hp,fun h=>by simp at h,by simp,by simp⟩
 ·split
  ·exact ⟨by show p≤p+1;omega,by show p+1≤e;omega,fun h=>by show p < p+1;omega,by show (-1:Int)≤((_:Nat):Int);omega,by show ((_:Nat):Int) < _;omega⟩
  ·split
   ·exact ⟨by show p≤p+1;omega,by show p+1≤e;omega,fun h=>by simp at h,by simp,by simp⟩
   ·split
    ·exact ⟨by show p≤p+1;omega,by show p+1≤e;omega,fun h=>by show p < p+1;omega,by simp,by simp⟩
    ·split
     ·exact ⟨by show p≤p+1;omega,by show p+1≤e;omega,fun h=>by simp at h,by simp,by simp⟩
     ·have hk:qAr b p % 16≤4:=by omega
      split
      ·exact ⟨by show p≤p+1+_;omega,by show p+1+_≤e;omega,fun h=>by simp at h,by simp,by simp⟩
      ·have h1:=numB_lt b (qAr b p % 16) (p+1) 0 0 (by simp)
       have h2:256 ^ (0+qAr b p % 16)≤256 ^ 4:=Nat.pow_le_pow_right (by omega) (by omega)
       exact ⟨by show p≤p+1+_;omega,by show p+1+_≤e;omega,fun h=>by show p < p+1+_;omega,by show (-1:Int)≤((_:Nat):Int);omega,by show ((_:Nat):Int) < _;omega⟩
def vFy (b:List UInt8) (g:Nat→Rd) (e d:Nat) (t:Int) (n:Int×Int×Nat) (c:Nat):Node×Int×Nat×Nat :=
 if n.2.1≠0 then (.mk 0 [] [],n.2.1,n.2.2,c)
 else if d > 8 then (.mk 0 [] [],7,n.2.2,c+1)
 else if c+1 > 256 then (.mk 0 [] [],2,n.2.2,c+1)
 else if n.1 > (e:Int)-(n.2.2:Int) then (.mk 0 [] [],6,n.2.2,c+1)
 else if n.1 = -1 then (.mk t [] (qIi b (g e) e (e+1) n.2.2 (c+1) []).1,(qIi b (g e) e (e+1) n.2.2 (c+1) []).2)
 else if qBd t=true then (.mk t [] (qEl (g (n.2.2+n.1.toNat)) (n.2.2+n.1.toNat) (e+1) n.2.2 (c+1) []).1,(qEl (g (n.2.2+n.1.toNat)) (n.2.2+n.1.toNat) (e+1) n.2.2 (c+1) []).2)
 else (.mk t ((b.drop n.2.2).take n.1.toNat) [],0,n.2.2+n.1.toNat,c+1)
def qMw (b:List UInt8) (st:Bool):Nat→Nat→Nat→Nat→Nat→Node×Int×Nat×Nat
 | 0,e,d,p,c=>(.mk 0 [] [],7,p,c)
 | k+1,e,d,p,c =>
  if (qJs b e p).2.1≠0 then (.mk 0 [] [],(qJs b e p).2.1,(qJs b e p).2.2,c)
  else vFy b (fun e'=>qMw b st k e' (d+1)) e d (qJs b e p).1 (qPa b e (qBd (qJs b e p).1&&!st) st (qJs b e p).2.2) c
theorem objX_ok (b:List UInt8) (st:Bool):∀ (k e d:Nat),RdOk (qMw b st k e d) e
 | 0,e,d=>fun p c hp hc=>⟨Nat.le_refl _,hp,by show c≤257;omega,fun h=>by simp [qMw] at h⟩
 | k+1,e,d=>fun p c hp hc=>by
  have h1:=tagX_ok b hp
  rw [qMw]
  split
  ·rename_i he
   exact ⟨h1.1,h1.2.1,by show c≤257;omega,fun h=>absurd h he⟩
  ·rename_i he
   have h1':=h1.2.2.1 (by simpa using he)
   have h2:=lenX_ok b (qBd (qJs b e p).1&&!st) st h1.2.1
   generalize qPa b e (qBd (qJs b e p).1&&!st) st (qJs b e p).2.2=n at h2
   obtain ⟨n,e2,q⟩:=n
   simp only at h2
   have hq1:=h2.1
   have hq2:=h2.2.1
   unfold vFy
   simp only
   split
   ·rename_i he2
    exact ⟨by show p≤q;omega,hq2,by show c≤257;omega,fun h=>absurd h he2⟩
   ·split
    ·exact ⟨by show p≤q;omega,hq2,by show c+1≤257;omega,fun h=>by simp at h⟩
    ·split
     ·exact ⟨by show p≤q;omega,hq2,by show c+1≤257;omega,fun h=>by simp at h⟩
     ·split
      ·exact ⟨by show p≤q;omega,hq2,by show c+1≤257;omega,fun h=>by simp at h⟩
      ·rename_i hn
       split
       ·have:=kidsX_ok (b:=b) (objX_ok b st k e (d+1)) (e+1) q (c+1) [] hq2 (by omega)
        exact ⟨Nat.le_trans (by omega) this.1,this.2.1,this.2.2.1,fun h=>⟨Nat.lt_of_lt_of_le (by omega) this.1,this.2.2.2 h⟩⟩
       ·have hle:q+n.toNat≤e:=by omega
        split
        ·have:=loopX_ok (objX_ok b st k (q+n.toNat) (d+1)) (e+1) q (c+1) [] (by omega) (by omega)
         exact ⟨Nat.le_trans (by omega) this.1,Nat.le_trans this.2.1 hle,this.2.2.1,fun h=>⟨Nat.lt_of_lt_of_le (by omega) this.1,this.2.2.2 h⟩⟩
        ·exact ⟨by show p≤q+n.toNat;omega,hle,by show c+1≤257;omega,fun h=>⟨by show p < q+n.toNat;omega,by show c+1≤256;omega⟩⟩
set_option maxHeartbeats 16000000 in
set_option maxRecDepth 100000 in
theorem qWn (b:List UInt8) (st:Bool) (hb:b.length≤1000000):∀ (k d e:Nat),e≤b.length→d+k=9→ObjS b st (qMw b st (k+1) e d) e d:=by
 intro k
 induction k using Nat.strongRecOn with
 | _ k ih =>
 intro d e he hdk p c hp hc
 generalize hfin:qMw b st (k+1) e d p c=fin
 rw [qMw] at hfin
 have htag:=vGh b st e p c hb he hp
 have htok:=tagX_ok b hp
 generalize qJs b e p=tq at htag htok hfin
 obtain ⟨t,e1,p1⟩:=tq
 simp only at htag htok hfin
 have hcon:=qFk t (by omega)
 have hlen:=vHb b (qBd t&&!st) st e p1 c hb he htok.2.1
 have hlok:=lenX_ok b (qBd t&&!st) st htok.2.1
 generalize qPa b e (qBd t&&!st) st p1=nq at hlen hlok hfin
 obtain ⟨n,e2,q⟩:=nq
 simp only [vFy] at hlen hlok hfin
 generalize qBd t=con at hcon hlen hfin
 have hwc:IntKind.i64.wrap ((c:Int)+1)=((c+1:Nat):Int):=by rw [qAe (by omega)];simp
 have hwd:IntKind.i64.wrap ((d:Int)+1)=((d+1:Nat):Int):=by rw [qAe (by omega)];simp
 refine qAb hT Tryz.func342 rfl rfl rfl rfl ?_
 intro E hE
 refine ww ?_
 refine qAd (qGd rfl rfl htag [0] (by decide) rfl rfl rfl rfl rfl rfl rfl) rfl ?_
 refine ww ?_
 refine qAa rfl (fun h1=>?_) (fun h1=>?_)
 ·have h1':e1≠0:=by simpa using h1
  rw [if_pos h1'] at hfin
  subst hfin
  refine ww ?_
  exact qAg (r:=.tup [.agg (qIh (.mk 0 [] [])),.I e1]) rfl (AV.le.tup ⟨AV.le.agg ⟨.refl _,AV.le.dat,AV.le.dat,trivial⟩,.refl _,trivial⟩) rfl rfl rfl rfl ⟨rfl,rfl⟩
 ·have h1':¬ e1≠0:=by simpa using h1
  rw [if_neg h1'] at hfin
  refine ww ?_
  refine qAd (qBl rfl rfl hcon rfl rfl rfl) rfl ?_
  refine ww ?_
  refine qAd (qGd rfl rfl hlen [0] (by decide) rfl rfl rfl rfl rfl rfl rfl) rfl ?_
  refine ww ?_
  refine qAa rfl (fun h2=>?_) (fun h2=>?_)
  ·have h2':e2≠0:=by simpa using h2
   rw [if_pos h2'] at hfin
   subst hfin
   refine ww ?_
   exact qAg (r:=.tup [.agg (qIh (.mk 0 [] [])),.I e2]) rfl (AV.le.tup ⟨AV.le.agg ⟨.refl _,AV.le.dat,AV.le.dat,trivial⟩,.refl _,trivial⟩) rfl rfl rfl rfl ⟨rfl,rfl⟩
  ·have h2':¬ e2≠0:=by simpa using h2
   rw [if_neg h2'] at hfin
   have hwe:IntKind.i64.wrap ((e:Int)-(q:Int))=(e:Int)-(q:Int):=qAe (by omega)
   refine ww ?_
   refine qAa rfl (fun h3=>?_) (fun h3=>?_)
   ·have h3':d > 8:=by simp at h3;omega
    rw [if_pos h3'] at hfin
    subst hfin
    refine ww ?_
    exact qAg (r:=.tup [.agg (qIh (.mk 0 [] [])),.I 7]) rfl (AV.le.tup ⟨AV.le.agg ⟨.refl _,AV.le.dat,AV.le.dat,trivial⟩,.refl _,trivial⟩) rfl rfl rfl rfl ⟨rfl,by rw [hwc];rfl⟩
   ·have h3':¬ d > 8:=by simp at h3;omega
    rw [if_neg h3'] at hfin
    refine ww ?_
    refine qAa rfl (fun h4=>?_) (fun h4=>?_)
    ·have h4':c+1 > 256:=by rw [hwc] at h4;simp at h4;omega
     rw [if_pos h4'] at hfin
     subst hfin
     refine ww ?_
     exact qAg (r:=.tup [.agg (qIh (.mk 0 [] [])),.I 2]) rfl (AV.le.tup ⟨AV.le.agg ⟨.refl _,AV.le.dat,AV.le.dat,trivial⟩,.refl _,trivial⟩) rfl rfl rfl rfl ⟨rfl,by rw [hwc];rfl⟩
    ·have h4':¬ c+1 > 256:=by rw [hwc] at h4;simp at h4;omega
     rw [if_neg h4'] at hfin
     refine ww ?_
     refine qAa rfl (fun h5=>?_) (fun h5=>?_)
     ·have h5':n > (e:Int)-(q:Int):=by rw [hwe] at h5;simp at h5;omega
      rw [if_pos h5'] at hfin
      subst hfin
      refine ww ?_
      exact qAg (r:=.tup [.agg (qIh (.mk 0 [] [])),.I 6]) rfl (AV.le.tup ⟨AV.le.agg ⟨.refl _,AV.le.dat,AV.le.dat,trivial⟩,.refl _,trivial⟩) rfl rfl rfl rfl ⟨rfl,by rw [hwc];rfl⟩
     ·have h5':¬ n > (e:Int)-(q:Int):=by rw [hwe] at h5;simp at h5;omega
      rw [if_neg h5'] at hfin
      obtain ⟨k,rfl⟩:∃ k',k=k'+1:=⟨k-1,by omega⟩
      have hrow:rdr b st q (c+1)=[.d (.sl 1 (qAj b)),.I (q:Int),.d (.bool st),.I (IntKind.i64.wrap ((c:Int)+1))]:=by rw [hwc];rfl
      refine ww ?_
      refine qAa rfl (fun h6=>?_) (fun h6=>?_)
      ·have h6':n = -1:=by simpa using h6
       rw [if_pos h6'] at hfin
       have hkd:=vDq b st (qMw b st (k+1) e (d+1)) e (d+1) hb he (by omega) (objX_ok b st (k+1) e (d+1)) (ih k (by omega) (d+1) e he (by omega)) q (c+1) (e+1) hlok.2.1 (by omega) (by omega)
       rw [← hwd,hrow] at hkd
       generalize qIi b (qMw b st (k+1) e (d+1)) e (e+1) q (c+1) []=kr at hkd hfin
       obtain ⟨ks,e3,p3,c3⟩:=kr
       simp only at hkd hfin
       subst hfin
       refine ww ?_
       refine qAd (qGd rfl rfl hkd [0] (by decide) rfl rfl rfl rfl rfl rfl rfl) rfl ?_
       refine ww ?_
       exact qAg (r:=.tup [.agg (qIh (.mk t [] ks)),.I e3]) rfl (AV.le.tup ⟨AV.le.agg ⟨.refl _,AV.le.dat,.refl _,trivial⟩,.refl _,trivial⟩) rfl rfl rfl rfl ⟨rfl,rfl⟩
      ·have h6':¬ n = -1:=by simpa using h6
       rw [if_neg h6'] at hfin
       obtain ⟨nn,rfl⟩:=Int.eq_ofNat_of_zero_le (show 0≤n by omega)
       rw [Int.toNat_natCast] at hfin
       have hwn:IntKind.i64.wrap ((q:Int)+(nn:Int))=((q+nn:Nat):Int):=by rw [qAe (by omega)];simp
       refine ww ?_
       refine qAa rfl (fun h7=>?_) (fun h7=>?_)
       ·rw [if_pos h7] at hfin
        have hob:=qLv b st (qMw b st (k+1) (q+nn) (d+1)) (q+nn) (d+1) hb (by omega) (by omega) (objX_ok b st (k+1) (q+nn) (d+1)) (ih k (by omega) (d+1) (q+nn) (by omega) (by omega)) q (c+1) (e+1) (by omega) (by omega) (by omega)
        rw [← hwd,← hwn,hrow] at hob
        generalize qEl (qMw b st (k+1) (q+nn) (d+1)) (q+nn) (e+1) q (c+1) []=kr at hob hfin
        obtain ⟨ks,e3,p3,c3⟩:=kr
        simp only at hob hfin
        subst hfin
        refine ww ?_
        refine qAd (qGd rfl rfl hob [0] (by decide) rfl rfl rfl rfl rfl rfl rfl) rfl ?_
        refine ww ?_
        exact qAg (r:=.tup [.agg (qIh (.mk t [] ks)),.I e3]) rfl (AV.le.tup ⟨AV.le.agg ⟨.refl _,AV.le.dat,.refl _,trivial⟩,.refl _,trivial⟩) rfl rfl rfl rfl ⟨rfl,rfl⟩
       ·have h7':¬ con=true:=by simp [h7]
        rw [if_neg h7'] at hfin
        subst hfin
        refine wwe ?_
        have hbl:=encB_length b
        have hwn2:IntKind.i64.wrap (((q+nn:Nat):Int))=((q+nn:Nat):Int):=qAe (by omega)
        have hcut:qOf (qAj b) (q:Int) (IntKind.i64.wrap ((q:Int)+(nn:Int)))=qAj ((b.drop q).take nn):=by
         rw [hwn];unfold qOf;rw [encB_drop,encB_take,Int.toNat_natCast];congr 2;omega
        have hcl:=qOt (qOf (qAj b) (q:Int) (IntKind.i64.wrap ((q:Int)+(nn:Int)))) (by rw [hcut,encB_length,List.length_take,List.length_drop];omega)
        refine qAl ?_
        refine qBp (fun i=>bif Nat.beq i 3||Nat.beq i 7||Nat.beq i 11 then [0] else bif Nat.beq i 17 then [2] else []) (fun i=>bif Nat.beq i 17 then [2] else []) mixed (by kernel_rfl) ?_
        refine wwg ?_
        refine qAk (os:=[]) (fun k hk1 hk2=>qBl rfl rfl hcl rfl rfl rfl) rfl ?_
        refine wwg ?_
        refine ww ?_
        exact qAg (r:=.tup [.agg (qIh (.mk t ((b.drop q).take nn) [])),.I 0]) rfl (AV.le.tup ⟨AV.le.agg ⟨.refl _,AV.le.eq (congrArg (fun z=>AV.d (.sl 1 z)) hcut),AV.le.dat,trivial⟩,AV.le.eq (congrArg (fun z=>AV.d (.int .i64 z)) (show e2=0 by omega)),trivial⟩) rfl rfl rfl rfl ⟨rfl,by rw [hwc,hwn];rfl⟩
def qEj (b:List UInt8) (st:Bool):List Node×Int :=
 if b.length > 4096 then ([],2) else ((qEl (qMw b st 9 b.length 1) b.length (b.length+1) 0 0 []).1,(qEl (qMw b st 9 b.length 1) b.length (b.length+1) 0 0 []).2.1)
set_option maxHeartbeats 4000000 in
set_option maxRecDepth 100000 in
theorem qXm (b:List UInt8) (st:Bool) (hb:b.length≤1000000) :
  Spec Tryz.prog 178 [.d (.sl 1 (qAj b)),.d (.bool st)] [] (fun r h'=>r=.tup [.d (.sl 3 (encNs (qEj b st).1)),.d (.int .i64 (qEj b st).2)]∧h'=[]):=by
 have hbl:=encB_length b
 have hob:=qLv b st (qMw b st 9 b.length 1) b.length 1 hb (Nat.le_refl _) (by omega) (objX_ok b st 9 b.length 1) (qWn b st hb 8 1 b.length (Nat.le_refl _) rfl) 0 0 (b.length+1) (by omega) (by omega) (by omega)
 refine qAb hT Tryz.func178 rfl rfl rfl rfl ?_
 intro E hE
 unfold qEj
 refine ww ?_
 refine qAa rfl (fun h1=>?_) (fun h1=>?_)
 ·have h1':b.length > 4096:=by rw [hbl] at h1;simp at h1;omega
  rw [if_pos h1']
  refine ww ?_
  exact qAg (r:=.tup [.d (.sl 3 (encNs [])),.I 2]) rfl (AV.le.tup ⟨AV.le.nils,.refl _,trivial⟩) rfl rfl rfl rfl ⟨rfl,rfl⟩
 ·have h1':¬ b.length > 4096:=by rw [hbl] at h1;simp at h1;omega
  rw [if_neg h1']
  generalize qEl (qMw b st 9 b.length 1) b.length (b.length+1) 0 0 []=kr at hob
  obtain ⟨ks,e3,p3,c3⟩:=kr
  simp only at hob ⊢
  rw [← hbl] at hob
  refine ww ?_
  refine qAd (qGd rfl rfl hob [0] (by decide) rfl rfl rfl rfl rfl rfl rfl) rfl ?_
  refine ww ?_
  exact qAg rfl (.refl _) rfl rfl rfl rfl ⟨rfl,rfl⟩
theorem qQq (b:List UInt8) (st:Bool) (hb:b.length≤9223372036854775807) :
  Spec Tryz.prog 178 [.d (.sl 1 (qAj b)),.d (.bool st)] [] (fun r h'=>r=.tup [.d (.sl 3 (encNs (qEj b st).1)),.d (.int .i64 (qEj b st).2)]∧h'=[]):=by
 by_cases hsm:b.length≤4096
 ·exact qXm b st (by omega)
 have hbl:=encB_length b
 unfold qEj
 rw [if_pos (show b.length > 4096 by omega)]
 refine qAb hT Tryz.func178 rfl rfl rfl rfl ?_
 intro E hE
 refine ww ?_
 refine qAa rfl (fun h1=>?_) (fun h1=>?_)
 ·refine ww ?_
  exact qAg (r:=.tup [.d (.sl 3 (encNs [])),.I 2]) rfl (AV.le.tup ⟨AV.le.nils,.refl _,trivial⟩) rfl rfl rfl rfl ⟨rfl,rfl⟩
 ·rw [hbl] at h1
  simp at h1
  omega
def qOc (l:List Int):List (List Dat):=l.map fun n=>[.int .i64 n]
theorem encI_length (l:List Int):(qOc l).length=l.length:=by simp [qOc]
theorem encI_at {l:List Int} {i:Nat} (h:i < l.length):(qOc l)[((i:Int)).toNat]?=some [.int .i64 l[i]]:=by simp [qOc,h]
def vBe:Int→List Int→Int
 | _,[]=>0
 | bf,n::l=>if n < 1∨n > 16 then 3 else if n≤bf then 17 else vBe n l
set_option maxHeartbeats 4000000 in
set_option maxRecDepth 100000 in
theorem qPj (l:List Int) (hl:l.length≤9223372036854775807):Spec Tryz.prog 191 [.d (.sl 1 (qOc l))] [] (fun r h'=>r=.I (vBe 0 l)∧h'=[]):=by
 have hlen:=encI_length l
 refine qAb hT Tryz.func191 rfl rfl rfl rfl ?_
 intro E hE
 generalize hfin:vBe 0 l=fin
 refine ww ?_
 refine qAq (ι:=Nat×Int) (fun x=>[(3,.I x.2),(6,.d (.sl 1 (qOc l))),(7,.I ((qOc l).length:Int)),(8,.I (x.1:Int))]) (fun _=>[]) (fun x=>x.1≤l.length∧vBe x.2 (l.drop x.1)=fin) (fun x=>l.length-x.1) (0,0) ⟨by simp,by simpa using hfin⟩
  q1 (HLe.refl _) ?_
 rintro ⟨i,bf⟩ ⟨hi,hg⟩
 simp only at hi hg ⊢
 refine ww ?_
 refine qAa rfl (fun h1=>?_) (fun h1=>?_)
 ·have h1':i < l.length:=by rw [hlen] at h1;simpa using h1
  have hwr:IntKind.i64.wrap ((i:Int)+1)=((i+1:Nat):Int):=by rw [qAe (by omega)];simp
  have hdrop:l.drop i=l[i]::l.drop (i+1):=by simp
  have hel:=encI_at h1'
  rw [hdrop,vBe] at hg
  generalize l[i]=x at hel hg
  refine ww ?_
  refine qAd (qAc (indexAddr_ok hT rfl rfl rfl rfl (by omega) hel)) rfl ?_
  refine ww ?_
  refine qAa rfl (fun h2=>?_) (fun h2=>?_)
  ·have h2':x < 1∨x > 16:=by simpa using h2
   rw [if_pos h2'] at hg
   subst hg
   refine ww ?_
   exact qAg rfl (.refl _) rfl rfl rfl rfl ⟨rfl,rfl⟩
  ·have h2':¬ (x < 1∨x > 16):=by simpa using h2
   rw [if_neg h2'] at hg
   refine ww ?_
   refine qAa rfl (fun h3=>?_) (fun h3=>?_)
   ·have h3':x≤bf:=by simpa using h3
    rw [if_pos h3'] at hg
    subst hg
    refine ww ?_
    exact qAg rfl (.refl _) rfl rfl rfl rfl ⟨rfl,rfl⟩
   ·have h3':¬ x≤bf:=by simpa using h3
    rw [if_neg h3'] at hg
    refine ww ?_
    exact ⟨(i+1,x),⟨by simp only;omega,hg⟩,by simp only;omega,⟨.refl _,.refl _,.refl _,AV.le.eq (congrArg (fun z=>AV.d (.int .i64 z)) hwr),trivial⟩,HLe.refl _⟩
 ·have hge:i=l.length:=by rw [hlen] at h1;simp at h1;omega
  subst hge
  rw [List.drop_length,vBe] at hg
  subst hg
  refine ww ?_
  exact qAg rfl (.refl _) rfl rfl rfl rfl ⟨rfl,rfl⟩
theorem ascX_range:∀ (bf:Int) (l:List Int),vBe bf l=0→∀ n,n∈l→1≤n∧n≤16
 | _,[],_,n,h=>by cases h
 | bf,a::l,h0,n,hn=>by
  rw [vBe] at h0
  split at h0
  ·simp at h0
  ·split at h0
   ·simp at h0
   ·cases hn with
    | head=>omega
    | tail _ hn=>exact ascX_range a l h0 n hn
theorem ascX_len16:∀ (bf:Int) (l:List Int),vBe bf l=0→bf≤16→(l.length:Int)+bf≤16
 | _,[],_,h=>by simpa using h
 | bf,a::l,h0,hb=>by
  rw [vBe] at h0
  split at h0
  ·simp at h0
  ·split at h0
   ·simp at h0
   ·have:=ascX_len16 a l h0 (by omega)
    simp only [List.length_cons];omega
def qDx (n:Int):UInt8:=UInt8.ofNat ((tagTab[(n-1).toNat]?).getD 0).toNat
def qLk (l:List Int):List UInt8×Int :=
 if vBe 0 l≠0 then ([],vBe 0 l) else qEf 17 [.mk 24321 [48,49,48,56] [],.mk 24374 [48,52,48,48,48,48] [],.mk 92 (l.map qDx) []]
def qRu (l:List Int):List Node:=[.mk 24321 [48,49,48,56] [],.mk 24374 [48,52,48,48,48,48] [],.mk 92 (l.map qDx) []]
theorem wrL_cons_length (t:Int) (v:List UInt8) (k r:List Node):(wrL (.mk t v k::r)).length≤11+v.length+(wrL k).length+(wrL r).length:=by
 have h1:=wrL_one_le t v k
 have h2:=congrArg List.length (wrL_append [.mk t v k] r)
 rw [List.length_append] at h2
 have h3:[Node.mk t v k]++r=.mk t v k::r:=rfl
 rw [h3] at h2
 omega
theorem tagTab_range:∀ y,y∈tagTab→0≤y∧y≤255:=by decide
set_option maxHeartbeats 4000000 in
set_option maxRecDepth 100000 in
theorem qXv (l:List Int) (hl:l.length≤9223372036854775807):Spec Tryz.prog 106 [.d (.sl 1 (qOc l))] [] (fun r h'=>r=.tup [.d (.sl 1 (qAj (qLk l).1)),.d (.int .i64 (qLk l).2)]∧h'=[]):=by
 have hlen:=encI_length l
 have hasc:=qPj l (by omega)
 have hrg:=ascX_range 0 l
 have h16:=ascX_len16 0 l
 have hwrap:=fun (h0:l.length≤16)=>qGv 17 (by omega) (qRu l) (by simp [qRu]) ⟨⟨by omega,by simp,by simp,trivial⟩,⟨by omega,by simp,by simp,trivial⟩,⟨by omega,by simp;omega,by simp,trivial⟩,trivial⟩ (by simp [qRu,qAu,qCg]) (by
  have h1:=wrL_cons_length 24321 [48,49,48,56] [] [.mk 24374 [48,52,48,48,48,48] [],.mk 92 (l.map qDx) []]
  have h2:=wrL_cons_length 24374 [48,52,48,48,48,48] [] [.mk 92 (l.map qDx) []]
  have h3:=wrL_one_le 92 (l.map qDx) []
  simp only [wrL,List.length_cons,List.length_nil,List.length_map] at h1 h2 h3 ⊢
  simp only [qRu,wrL] at *
  omega)
 unfold qLk
 generalize vBe 0 l=e at hasc hrg h16
 refine qAb hT Tryz.func106 rfl rfl rfl rfl ?_
 intro E hE
 refine qAo ?_
 refine ww ?_
 refine qAd (qBl rfl rfl hasc rfl rfl rfl) rfl ?_
 refine ww ?_
 refine qAa rfl (fun h1=>?_) (fun h1=>?_)
 ·have h1':e≠0:=by simpa using h1
  rw [if_pos h1']
  refine ww ?_
  exact qAg (r:=.tup [.d (.sl 1 (qAj [])),.I e]) rfl (AV.le.tup ⟨AV.le.nils,.refl _,trivial⟩) rfl rfl rfl rfl ⟨rfl,rfl⟩
 ·have h1':¬ e≠0:=by simpa using h1
  have hrg:=hrg (by simpa using h1)
  rw [if_neg h1']
  have hl16:l.length≤16:=by have:=h16 (by simpa using h1) (by omega);omega
  have hwrap:=hwrap hl16
  refine wwe ?_
  refine qAl (qAf ?_)
  refine wws ?_
  refine qBb 5 1 0 (es:=[]) (.inr ⟨rfl,rfl⟩) rfl ?_
  refine ww ?_
  refine qAq (ι:=Nat) (fun i=>[(5,.sl 1 (qAj ((l.take i).map qDx)) (.right 0)),(13,.d (.sl 1 (qOc l))),(14,.I ((qOc l).length:Int)),(15,.I (i:Int))]) (fun i=>[.right 1 (qAj ((l.take i).map qDx)).length]) (fun i=>i≤l.length) (fun i=>l.length-i) 0 (by omega)
   q1 (HLe.refl _) ?_
  intro i hi
  have hwr:IntKind.i64.wrap ((i:Int)+1)=((i+1:Nat):Int):=by rw [qAe (by omega)];simp
  refine ww ?_
  refine qAa rfl (fun h2=>?_) (fun h2=>?_)
  ·have h2':i < l.length:=by rw [hlen] at h2;simpa using h2
   have hel:=encI_at h2'
   have hr:=hrg l[i] (List.getElem_mem h2')
   have hsucc:(l.take (i+1)).map qDx=(l.take i).map qDx++[qDx l[i]]:=by rw [List.take_succ_eq_append_getElem h2',List.map_append];rfl
   generalize l[i]=x at hel hr hsucc
   have hwx:IntKind.i64.wrap (x-1)=x-1:=qAe (by omega)
   obtain ⟨y,hy,hd,_⟩:=tagD_at (i:=(x-1).toNat) (by omega)
   have hyr:=tagTab_range y (List.mem_of_getElem? hy)
   have htb:qDx x=UInt8.ofNat y.toNat:=by unfold qDx;rw [hy];rfl
   have hw8:IntKind.u8.wrap y=((UInt8.ofNat y.toNat).toNat:Int):=by rw [wrapu8 hyr,toNat_ofNat (by omega)];omega
   have hol:=encB_length ((l.take i).map qDx)
   rw [List.length_map,List.length_take] at hol
   refine qBw ?_
   refine qAl (qDt (qAl (qAf ?_)))
   refine qAd (qAc (indexAddr_ok hT rfl rfl rfl rfl (by omega) hel)) rfl ?_
   refine ww ?_
   refine qAd (qAc (arrAddr_ok (cs:=tagD) hT rfl rfl rfl rfl (by rw [hwx];omega))) rfl ?_
   rw [hwx,Nat.mul_one]
   generalize tagD.drop (x-1).toNat=cs at hd
   match cs,hd with
   | d::cs,hd =>
    simp only [List.getElem?_cons_zero,Option.some.injEq] at hd
    subst hd
    refine ww ?_
    refine qAd (qAh (i:=0) hT rfl rfl rfl rfl rfl rfl (by show ((qAj ((l.take i).map qDx)).length+1)*(1+1)≤_;omega)) rfl ?_
    refine ww ?_
    have hres:qAj ((l.take (i+1)).map qDx)=qAj ((l.take i).map qDx)++[[Dat.int .u8 (IntKind.u8.wrap y)]]:=by rw [hsucc,encB_append,htb,hw8];rfl
    exact ⟨i+1,by omega,by omega,⟨AV.le.eq (by rw [hres];rfl),.refl _,.refl _,AV.le.eq (congrArg (fun z=>AV.d (.int .i64 z)) hwr),trivial⟩,⟨⟨rfl,by rw [hres]⟩,trivial⟩⟩
  ·have hge:i=l.length:=by rw [hlen] at h2;simp at h2;omega
   subst hge
   rw [List.take_length]
   refine wwe ?_
   refine qAl (qYc [] _ rfl ?_)
   refine qJq hT rfl rfl rfl rfl ?_
   refine vKy ?_
   refine wws ?_
   refine qJq hT rfl rfl rfl rfl ?_
   refine vMp ?_
   refine wws ?_
   refine qAd (qKa rfl rfl hwrap rfl (by exact ⟨.refl _,AV.le.trans AV.le.dat (AV.le.eq rfl),trivial⟩) rfl rfl) rfl ?_
   refine ww ?_
   exact qAg rfl (.refl _) rfl rfl rfl rfl ⟨rfl,rfl⟩
def qWm (b:List UInt8):Int×List Node×Int :=
 if (qEj b false).2≠0 then (0,[],(qEj b false).2) else match (qEj b false).1 with
  | [.mk t v k]=>if (qKr t).2≠0 then (0,[],(qKr t).2) else ((qKr t).1,k,0)
  | _=>(0,[],1)
set_option maxHeartbeats 4000000 in
set_option maxRecDepth 100000 in
theorem qUw (b:List UInt8) (hb:b.length≤9223372036854775807):Spec Tryz.prog 104 [.d (.sl 1 (qAj b))] []
  (fun r h'=>r=.tup [.d (.int .i64 (qWm b).1),.d (.sl 3 (encNs (qWm b).2.1)),.d (.int .i64 (qWm b).2.2)]∧h'=[]):=by
 have hps:=qQq b false hb
 unfold qWm
 generalize qEj b false=q at hps
 obtain ⟨l,e⟩:=q
 simp only at hps ⊢
 have hlen:=encNs_length l
 refine qAb hT Tryz.func104 rfl rfl rfl rfl ?_
 intro E hE
 refine ww ?_
 refine qAd (qBl rfl rfl hps rfl rfl rfl) rfl ?_
 refine ww ?_
 refine qAa rfl (fun h1=>?_) (fun h1=>?_)
 ·have h1':e≠0:=by simpa using h1
  rw [if_pos h1']
  refine ww ?_
  exact qAg (r:=.tup [.I 0,.d (.sl 3 (encNs [])),.I e]) rfl (AV.le.tup ⟨.refl _,AV.le.nils,.refl _,trivial⟩) rfl rfl rfl rfl ⟨rfl,rfl⟩
 ·have h1':¬ e≠0:=by simpa using h1
  rw [if_neg h1']
  refine ww ?_
  refine qAa rfl (fun h2=>?_) (fun h2=>?_)
  ·have h2':l.length≠1:=by rw [hlen] at h2;simp at h2;omega
   refine ww ?_
   refine qAg (r:=.tup [.I 0,.d (.sl 3 (encNs [])),.I 1]) rfl (AV.le.tup ⟨.refl _,AV.le.nils,.refl _,trivial⟩) rfl rfl rfl rfl ⟨?_,rfl⟩
   match l,h2' with
   | [],_=>rfl
   | [a],h=>exact absurd rfl h
   | .mk _ _ _::c::r,_=>rfl
  ·have h2':l.length=1:=by rw [hlen] at h2;simp at h2;omega
   match l,h2' with
   | [.mk t v k],_ =>
    have hgr:=vBp t
    simp only
    generalize qKr t=g at hgr
    obtain ⟨g,f⟩:=g
    simp only at hgr ⊢
    have hel:(encNs [.mk t v k])[((0:Int)).toNat]?=some [.int .i64 t,.sl 1 (qAj v),.sl 3 (encNs k)]:=rfl
    refine ww ?_
    refine qAd (qAc (indexAddr_ok hT rfl rfl rfl rfl (by omega) hel)) rfl ?_
    refine ww ?_
    refine qAd (qBl rfl rfl hgr rfl rfl rfl) rfl ?_
    refine ww ?_
    refine qAa rfl (fun h3=>?_) (fun h3=>?_)
    ·have h3':f≠0:=by simpa using h3
     rw [if_pos h3']
     refine ww ?_
     exact qAg (r:=.tup [.I 0,.d (.sl 3 (encNs [])),.I f]) rfl (AV.le.tup ⟨.refl _,AV.le.nils,.refl _,trivial⟩) rfl rfl rfl rfl ⟨rfl,rfl⟩
    ·have h3':¬ f≠0:=by simpa using h3
     rw [if_neg h3']
     refine ww ?_
     refine qBc (qAc (indexAddr_ok hT rfl rfl rfl rfl (by omega) hel)) rfl rfl ?_
     refine ww ?_
     exact qAg rfl (.refl _) rfl rfl rfl rfl ⟨rfl,rfl⟩
theorem byteCells_encB (v:List UInt8):qUi (qAj v):=fun e he=>by
 unfold qAj at he
 obtain ⟨x,_,rfl⟩:=List.mem_map.1 he
 exact ⟨_,rfl⟩
theorem bytesOf_encB (v:List UInt8):qRy (qAj v)=v:=by
 unfold qRy qAj
 rw [List.map_map]
 conv=>rhs;rw [← List.map_id v]
 apply List.map_congr_left
 intro x _
 show UInt8.ofNat ((x.toNat:Int)).toNat=x
 simp
def pG:Nat:=2147483579
def qPe:Nat→Nat→Nat→Nat→Nat
 | 0,x,k,out=>out
 | m+1,x,k,out=>if k=0 then out else qPe m (x*x % pG) (k / 2) (if k % 2=1 then out*x % pG else out)
theorem mulP_lt {a b:Nat} (ha:a < pG) (hb:b < pG):a*b≤4611686018427387904:=by
 have:=Nat.mul_le_mul (Nat.le_of_lt ha) (Nat.le_of_lt hb)
 exact Nat.le_trans this (by decide)
set_option maxHeartbeats 4000000 in
set_option maxRecDepth 100000 in
theorem qZk (x k m:Nat) (hx:x < pG) (hk:k≤9223372036854775807) (hm:k < 2 ^ m) :
  Spec Tryz.prog 209 [.I (x:Int),.I (k:Int)] [] (fun r h'=>r=.I (qPe m x k 1:Int)∧h'=[]):=by
 refine qAb hT Tryz.func209 rfl rfl rfl rfl ?_
 intro E hE
 generalize hfin:qPe m x k 1=fin
 refine ww ?_
 refine qAq (ι:=Nat×Nat×Nat×Nat) (fun y=>[(0,.I (y.1:Int)),(1,.I (y.2.1:Int)),(5,.I (y.2.2.1:Int))]) (fun _=>[])
  (fun y=>y.1 < pG∧y.2.1≤9223372036854775807∧y.2.2.1 < pG∧y.2.1 < 2 ^ y.2.2.2∧qPe y.2.2.2 y.1 y.2.1 y.2.2.1=fin) (fun y=>y.2.1) (x,k,1,m) ⟨hx,hk,show 1 < pG by decide,hm,hfin⟩ q1 (HLe.refl _) ?_
 rintro ⟨x,k,out,m⟩ ⟨hx,hk,ho,hm,hg⟩
 simp only at hx hk ho hm hg ⊢
 refine ww ?_
 refine qAa rfl (fun h1=>?_) (fun h1=>?_)
 ·have h1':0 < k:=by simpa using h1
  obtain ⟨m,rfl⟩:∃ m',m=m'+1:=⟨m-1,by cases m with | zero=>simp at hm;omega | succ m=>simp⟩
  rw [qPe,if_neg (by omega)] at hg
  refine ww ?_
  have hxx:=mulP_lt hx hx
  have hox:=mulP_lt ho hx
  have hm1:IntKind.i64.wrap ((x:Int)*(x:Int))=((x*x:Nat):Int):=by rw [← Int.natCast_mul];exact qAe (by omega)
  have hm2:IntKind.i64.wrap ((out:Int)*(x:Int))=((out*x:Nat):Int):=by rw [← Int.natCast_mul];exact qAe (by omega)
  have ht1:Int.tmod (IntKind.i64.wrap ((x:Int)*(x:Int))) 2147483579=((x*x % pG:Nat):Int):=by rw [hm1];rfl
  have ht2:Int.tmod (IntKind.i64.wrap ((out:Int)*(x:Int))) 2147483579=((out*x % pG:Nat):Int):=by rw [hm2];rfl
  have htk:Int.tmod (k:Int) 2=((k % 2:Nat):Int):=rfl
  have hdk:Int.tdiv (k:Int) 2=((k / 2:Nat):Int):=rfl
  have hwd:IntKind.i64.wrap (Int.tdiv (k:Int) 2)=((k / 2:Nat):Int):=by rw [hdk];exact qAe (by omega)
  have hl1:x*x % pG < pG:=Nat.mod_lt _ (by decide)
  have hl2:out*x % pG < pG:=Nat.mod_lt _ (by decide)
  have hk2:k / 2 < 2 ^ m:=by rw [Nat.pow_succ] at hm;omega
  refine qAa rfl (fun h2=>?_) (fun h2=>?_)
  ·have h2':k % 2=1:=by rw [htk] at h2;simp at h2;omega
   rw [if_pos h2'] at hg
   refine ww ?_
   exact ⟨(x*x % pG,k / 2,out*x % pG,m),⟨hl1,by show k / 2≤_;omega,hl2,hk2,hg⟩,by show k / 2 < k;omega,⟨AV.le.eq (congrArg (fun z=>AV.d (.int .i64 z)) ht1),AV.le.eq (congrArg (fun z=>AV.d (.int .i64 z)) hwd),AV.le.eq (congrArg (fun z=>AV.d (.int .i64 z)) ht2),trivial⟩,HLe.refl _⟩
  ·have h2':¬ k % 2=1:=by rw [htk] at h2;simp at h2;omega
   rw [if_neg h2'] at hg
   refine ww ?_
   exact ⟨(x*x % pG,k / 2,out,m),⟨hl1,by show k / 2≤_;omega,ho,hk2,hg⟩,by show k / 2 < k;omega,⟨AV.le.eq (congrArg (fun z=>AV.d (.int .i64 z)) ht1),AV.le.eq (congrArg (fun z=>AV.d (.int .i64 z)) hwd),.refl _,trivial⟩,HLe.refl _⟩
 ·have h1':k=0:=by simp at h1;omega
  subst h1'
  have hg':out=fin:=by rw [← hg];cases m <;> simp [qPe]
  subst hg'
  refine ww ?_
  exact qAg rfl (.refl _) rfl rfl rfl rfl ⟨rfl,rfl⟩
set_option maxHeartbeats 4000000 in
set_option maxRecDepth 100000 in
theorem vBn:Spec Tryz.prog 338 [.d (.int .u64 1073741789)] [] (fun r h'=>r=.I 30∧h'=[]):=by
 refine qAb hT Tryz.func338 rfl rfl rfl rfl ?_
 intro E hE
 refine ww ?_
 refine qAa rfl (fun h1=>?_) (fun h1=>?_)
 ·exact absurd h1 (by decide)
 ·refine ww ?_
  refine qAa rfl (fun h2=>?_) (fun h2=>?_)
  ·refine ww ?_
   refine qAa rfl (fun h3=>?_) (fun h3=>?_)
   ·refine ww ?_
    refine qHq hT rfl rfl (by decide) ?_
    refine ww ?_
    exact qAg (r:=.I 30) rfl (AV.le.eq (by rfl)) rfl rfl rfl rfl ⟨rfl,rfl⟩
   ·exact absurd h3 (by decide)
  ·exact absurd h2 (by decide)
set_option maxHeartbeats 4000000 in
set_option maxRecDepth 100000 in
theorem vId:Spec Tryz.prog 268 [.d (.int .u64 1073741789)] [] (fun r h'=>r=.I 30∧h'=[]):=by
 refine qAb hT Tryz.func268 rfl rfl rfl rfl ?_
 intro E hE
 refine ww ?_
 refine qAa rfl (fun h1=>?_) (fun h1=>?_)
 ·exact absurd h1 (by decide)
 ·refine ww ?_
  refine qAd (qBl rfl rfl vBn rfl rfl rfl) rfl ?_
  refine ww ?_
  exact qAg rfl (.refl _) rfl rfl rfl rfl ⟨rfl,rfl⟩
theorem vCb (n:Nat):(List.replicate n [AV.d (.int .u8 0)]).flatten=qAn (List.replicate n 0):=by
 induction n with
 | zero=>rfl
 | succ n ih=>rw [List.replicate_succ,List.flatten_cons,ih];rfl
def qG:Nat:=1073741789
theorem qG_div:∀ {i:Nat},i < 30→qG / 2 ^ i≠0:=by
 have h:∀ i,i∈List.range 30→qG / 2 ^ i≠0:=by decide
 exact fun {i} hi=>h i (List.mem_range.2 hi)
theorem vAe (x:Nat) (hx:x < pG):Spec Tryz.prog 173 [.I (x:Int),.I 1073741789] [] (fun r h'=>r=.I (qPe 30 x qG 1:Int)∧h'=[]):=by
 have hlen:Spec Tryz.prog 268 [.d (.int .u64 (IntKind.u64.wrap 1073741789))] [] (fun r h'=>r=.I 30∧h'=[]):=by
  rw [show IntKind.u64.wrap 1073741789=1073741789 by decide];exact vId
 generalize hfin:qPe 30 x qG 1=fin
 refine qAb hT Tryz.func173 rfl rfl rfl rfl ?_;intro E hE
 refine ww ?_
 refine wwc hlen ?_
 refine ww ?_
 refine qAq (ι:=Nat×Nat×Nat) (fun y=>[(0,.I (y.2.1:Int)),(1,.I 1073741789),(5,.I (y.2.2:Int)),(9,.I 30),(10,.I (y.1:Int))]) (fun _=>[])
  (fun y=>y.1≤30∧y.2.1 < pG∧y.2.2 < pG∧qPe (30-y.1) y.2.1 (qG / 2 ^ y.1) y.2.2=fin) (fun y=>30-y.1) (0,x,1) ⟨by omega,hx,show 1 < pG by decide,by simpa using hfin⟩ q1 (HLe.refl _) ?_
 rintro ⟨i,x,out⟩ ⟨hi,hx,ho,hg⟩
 simp only at hi hx ho hg ⊢
 refine ww ?_
 refine qAa rfl (fun h1=>?_) (fun h1=>?_)
 ·have h1':i < 30:=by simp at h1;omega
  have hq:=qG_div h1'
  have hq2:qG / 2 ^ i < 9223372036854775808:=Nat.lt_of_le_of_lt (Nat.div_le_self _ _) (by decide)
  obtain ⟨m,hm⟩:∃ m,30-i=m+1:=⟨30-i-1,by omega⟩
  rw [hm,qPe,if_neg hq,Nat.div_div_eq_div_mul,← Nat.pow_succ] at hg
  have hm':m=30-(i+1):=by omega
  subst hm'
  have hsh:Int.fdiv 1073741789 (2 ^ (min ((i:Int)).toNat IntKind.i64.bits))=((qG / 2 ^ i:Nat):Int):=by
   rw [show min ((i:Int)).toNat IntKind.i64.bits=i by simp [IntKind.bits];omega]
   exact qDy qG i
  have hand:IntKind.i64.wrap ((BitVec.ofInt IntKind.i64.bits (Int.fdiv 1073741789 (2 ^ (min ((i:Int)).toNat IntKind.i64.bits))) &&& BitVec.ofInt IntKind.i64.bits 1).toNat:Int)=((qG / 2 ^ i % 2:Nat):Int):=by
   rw [hsh]
   have:=qSh (a:=qG / 2 ^ i) (b:=1) hq2 (by omega)
   rw [Nat.and_one_is_mod] at this
   exact this
  have hxx:=mulP_lt hx hx
  have hox:=mulP_lt ho hx
  have hm1:IntKind.i64.wrap ((x:Int)*(x:Int))=((x*x:Nat):Int):=by rw [← Int.natCast_mul];exact qAe (by omega)
  have hm2:IntKind.i64.wrap ((out:Int)*(x:Int))=((out*x:Nat):Int):=by rw [← Int.natCast_mul];exact qAe (by omega)
  have ht1:Int.tmod (IntKind.i64.wrap ((x:Int)*(x:Int))) 2147483579=((x*x % pG:Nat):Int):=by rw [hm1];rfl
  have ht2:Int.tmod (IntKind.i64.wrap ((out:Int)*(x:Int))) 2147483579=((out*x % pG:Nat):Int):=by rw [hm2];rfl
  have hwi:IntKind.i64.wrap ((i:Int)+1)=((i+1:Nat):Int):=by rw [qAe (by omega)];omega
  have hl1:x*x % pG < pG:=Nat.mod_lt _ (by decide)
  have hl2:out*x % pG < pG:=Nat.mod_lt _ (by decide)
  generalize qG / 2 ^ i % 2=bt at hand hg
  refine ww ?_
  refine qAa rfl (fun h2=>?_) (fun h2=>?_)
  ·have h2':bt=1:=by rw [hand] at h2;simp at h2;omega
   rw [if_pos h2'] at hg
   refine ww ?_
   exact ⟨(i+1,x*x % pG,out*x % pG),⟨h1',hl1,hl2,hg⟩,by simp only;omega,⟨.int ht1,.refl _,.int ht2,.refl _,.int hwi,trivial⟩,HLe.refl _⟩
  ·have h2':¬ bt=1:=by rw [hand] at h2;simp at h2;omega
   rw [if_neg h2'] at hg
   refine ww ?_
   exact ⟨(i+1,x*x % pG,out),⟨h1',hl1,ho,hg⟩,by simp only;omega,⟨.int ht1,.refl _,.refl _,.refl _,.int hwi,trivial⟩,HLe.refl _⟩
 ·have h1':i=30:=by simp at h1;omega
  subst h1'
  have hg':out=fin:=by rw [← hg];rfl
  subst hg'
  refine ww ?_
  exact wwr
def qEy (x:Int):Bool:=decide (0 < x∧x < 2147483579)
def qDj (x:Int):Bool:=qEy x&&decide (x≠1)&&decide (qPe 30 x.toNat qG 1=1)
theorem qFy (x:Int):Spec Tryz.prog 322 [.I x] [] (fun r h'=>r=.d (.bool (qEy x))∧h'=[]):=by
 refine qAb hT Tryz.func322 rfl rfl rfl rfl ?_;intro E hE
 refine ww ?_
 exact vCz ⟨rfl,rfl⟩ rfl (.bool (by unfold qEy;rw [Bool.decide_and])) rfl rfl rfl rfl
theorem residueR_spec (x:Int):Spec Tryz.prog 310 [.I x] [] (fun r h'=>r=.d (.bool (qEy x))∧h'=[]):=by
 refine qAb hT Tryz.func310 rfl rfl rfl rfl ?_;intro E hE
 refine ww ?_
 exact vCz ⟨rfl,rfl⟩ rfl (.bool (by unfold qEy;rw [Bool.decide_and];congr 1)) rfl rfl rfl rfl
theorem vIw (x y:Int):(x != y)=decide (x≠y):=by rw [Bool.eq_iff_iff];simp
theorem vEc (n:Nat):((n:Int) == 1)=decide (n=1):=by rw [Bool.eq_iff_iff];simp;omega
theorem qFf (x:Int):Spec Tryz.prog 243 [.I x] [] (fun r h'=>r=.d (.bool (qDj x))∧h'=[]):=by
 have hres:=qFy x
 have hp:qEy x=true→Spec Tryz.prog 173 [.I x,.I 1073741789] [] (fun r h'=>r=.I (qPe 30 x.toNat qG 1:Int)∧h'=[]):=fun hr=>by
  have hr:0 < x∧x < 2147483579:=of_decide_eq_true hr
  have hp:=vAe x.toNat (by unfold pG;omega)
  rw [Int.toNat_of_nonneg (by omega)] at hp
  exact hp
 unfold qDj
 generalize qPe 30 x.toNat qG 1=pw at hp
 generalize qEy x=c at hp hres
 refine qAb hT Tryz.func243 rfl rfl rfl rfl ?_;intro E hE
 refine ww ?_
 refine wwc hres ?_
 refine ww ?_
 refine qCh (v:=.I (pw:Int)) rfl rfl rfl (fun hg=>⟨by first | exact True.intro | exact ⟨hg,True.intro⟩ | exact ⟨hg,hg,True.intro⟩,qBl rfl rfl (hp (by simp [gval] at hg;exact hg.1)) rfl rfl rfl⟩) ?_
 refine ww ?_
 exact vCz ⟨rfl,rfl⟩ rfl (.bool (by rw [vIw,vEc])) rfl rfl rfl rfl
theorem qHo (x:Int):Spec Tryz.prog 225 [.I x] [] (fun r h'=>r=.d (.bool (qDj x))∧h'=[]):=by
 have hres:=residueR_spec x
 have hp:qEy x=true→Spec Tryz.prog 209 [.I x,.I 1073741789] [] (fun r h'=>r=.I (qPe 30 x.toNat qG 1:Int)∧h'=[]):=fun hr=>by
  have hr:0 < x∧x < 2147483579:=of_decide_eq_true hr
  have hp:=qZk x.toNat qG 30 (by unfold pG;omega) (by decide) (by decide)
  rw [Int.toNat_of_nonneg (by omega)] at hp
  exact hp
 unfold qDj
 generalize qPe 30 x.toNat qG 1=pw at hp
 generalize qEy x=c at hp hres
 refine qAb hT Tryz.func225 rfl rfl rfl rfl ?_;intro E hE
 refine ww ?_
 refine wwc hres ?_
 refine ww ?_
 refine qCh (v:=.I (pw:Int)) rfl rfl rfl (fun hg=>⟨by first | exact True.intro | exact ⟨hg,True.intro⟩ | exact ⟨hg,hg,True.intro⟩,qBl rfl rfl (hp (by simp [gval] at hg;exact hg.1)) rfl rfl rfl⟩) ?_
 refine ww ?_
 exact vCz ⟨rfl,rfl⟩ rfl (.bool (by rw [vIw,vEc])) rfl rfl rfl rfl
theorem elemG_range {x:Int} (h:qDj x=true):0 < x∧x < 2147483579:=by
 unfold qDj qEy at h
 simp only [Bool.and_eq_true] at h
 exact of_decide_eq_true h.1.1
def qAw:Nat→Nat→List UInt8
 | 0,_=>[]
 | m+1,n=>qAw m (n / 256)++[UInt8.ofNat (n % 256)]
theorem octB_length:∀ (m n:Nat),(qAw m n).length=m
 | 0,_=>rfl
 | m+1,n=>by simp [qAw,octB_length m]
theorem octB_succ:∀ (m n:Nat),qAw (m+1) n=UInt8.ofNat (n / 256 ^ m % 256)::qAw m n
 | 0,n=>by simp [qAw]
 | m+1,n=>by
  have ih:=octB_succ m (n / 256)
  rw [qAw,ih,qAw,Nat.div_div_eq_div_mul,Nat.pow_succ,Nat.mul_comm (256 ^ m)]
  rfl
theorem qRb {α:Type} (z b:α) (l:List α):∀ (k:Nat),(List.replicate (k+1) z++l).set k b=List.replicate k z++b::l
 | 0=>rfl
 | k+1=>by
  have:=qRb z b l k
  rw [List.replicate_succ,List.cons_append,List.set_cons_succ,this,← List.cons_append,← List.replicate_succ]
theorem qDn (n m:Nat) (hm:m≤7) (hn:n < 256 ^ m):Spec Tryz.prog 245 [.I (n:Int),.I (m:Int)] [] (fun r h'=>r=.tup [.d (.sl 1 (qAj (qAw m n))),.I 0]∧h'=[]):=by
 have hn8:n < 2 ^ (8*m):=by rw [show (256:Nat)=2 ^ 8 by rfl,← Nat.pow_mul] at hn;exact hn
 have hn2:n < 72057594037927936:=Nat.lt_of_lt_of_le hn (Nat.le_trans (Nat.pow_le_pow_right (by omega) hm) (by decide))
 have hw8:IntKind.i64.wrap (8*(m:Int))=((8*m:Nat):Int):=by rw [qAe (by omega)];omega
 have hz:Int.fdiv (n:Int) (2 ^ (min (IntKind.i64.wrap (8*(m:Int))).toNat IntKind.i64.bits))=0:=by
  rw [hw8,show min (((8*m:Nat):Int)).toNat IntKind.i64.bits=8*m by simp [IntKind.bits];omega,qDy,Nat.div_eq_of_lt hn8];rfl
 refine qAb hT Tryz.func245 rfl rfl rfl rfl ?_;intro E hE
 refine ww ?_
 refine qAa rfl (fun h1=>?_) (fun h1=>?_)
 ·exact absurd h1 (by simp;omega)
 refine ww ?_
 refine qAa rfl (fun h2=>?_) (fun h2=>?_)
 ·refine absurd h2 ?_
  rw [hz];simp
 refine ww ?_
 refine qAd (makeRow_ok (n:=m) hT rfl rfl rfl rfl (by show 1*m≤_;omega) (by omega)) rfl ?_
 rw [vCb]
 refine ww ?_
 refine qAq (ι:=Nat) (fun i=>[(0,.I (n:Int)),(1,.I (m:Int)),(6,.row 0 0 m m),(25,.I (m:Int)),(26,.I (i:Int))]) (fun i=>[.row (qAn (List.replicate (m-i) 0++qAw i n))])
  (fun i=>i≤m) (fun i=>m-i) 0 (by omega) q1 ⟨by simp [qAw];exact ObLe.refl _,trivial⟩ ?_
 intro i hi
 refine ww ?_
 refine qAa rfl (fun h3=>?_) (fun h3=>?_)
 ·have h3':i < m:=by simp at h3;omega
  have hwi:IntKind.i64.wrap ((i:Int)+1)=((i+1:Nat):Int):=by rw [qAe (by omega)];omega
  have hix:IntKind.i64.wrap (IntKind.i64.wrap ((m:Int)-1)-(i:Int))=((m-1-i:Nat):Int):=by rw [qAe (n:=(m:Int)-1) (by omega),qAe (by omega)];omega
  have hwb:IntKind.i64.wrap (8*(i:Int))=((8*i:Nat):Int):=by rw [qAe (by omega)];omega
  have hby:IntKind.u8.wrap (Int.fdiv (n:Int) (2 ^ (min (IntKind.i64.wrap (8*(i:Int))).toNat IntKind.i64.bits)))=((UInt8.ofNat (n / 256 ^ i % 256)).toNat:Int):=by
   rw [hwb,show min (((8*i:Nat):Int)).toNat IntKind.i64.bits=8*i by simp [IntKind.bits];omega,qDy,qCi,toNat_ofNat (Nat.mod_lt _ (by omega)),Nat.pow_mul];simp
  have hrow:(qAn (List.replicate (m-i) 0++qAw i n)).set (m-1-i) (AV.d (.int .u8 (IntKind.u8.wrap (Int.fdiv (n:Int) (2 ^ (min (IntKind.i64.wrap (8*(i:Int))).toNat IntKind.i64.bits))))))=qAn (List.replicate (m-(i+1)) 0++qAw (i+1) n):=by
   rw [hby,octB_succ,show m-i=(m-(i+1))+1 by omega,show m-1-i=m-(i+1) by omega]
   have:=qRb (0:UInt8) (UInt8.ofNat (n / 256 ^ i % 256)) (qAw i n) (m-(i+1))
   rw [← this]
   simp [qAn,List.map_set]
  have hlen:(qAn (List.replicate (m-i) 0++qAw i n)).length=m:=by rw [byteAV_length];simp [octB_length];omega
  generalize qAn (List.replicate (m-i) 0++qAw i n)=row at hrow hlen
  refine ww ?_
  refine qAd (qAc (rowAddr_ok (sz:=1) hT rfl rfl rfl rfl (by rw [hix];omega))) rfl ?_
  refine qDp (qEw hT rfl rfl rfl rfl rfl rfl (by rw [hix,hlen];simp;omega)) rfl ?_
  refine ww ?_
  refine ⟨i+1,by omega,by omega,⟨.refl _,.refl _,.refl _,.refl _,.int hwi,trivial⟩,⟨?_,trivial⟩⟩
  rw [← hrow]
  exact ObLe.row (by rw [hix,show 0+(((m-1-i:Nat):Int)).toNat*1=m-1-i by simp];rfl)
 ·have h3':i=m:=by simp at h3;omega
  subst h3'
  rw [Nat.sub_self,List.replicate_zero,List.nil_append]
  refine wwe ?_
  refine qKz 6 0 1 (qAj (qAw i n)) rfl rfl (by rw [encB_length,octB_length]) (Nat.le_refl _) (qFe _) ?_
  refine ww ?_
  exact wwr
theorem qGf (x:Int):Spec Tryz.prog 179 [.I x] [] (fun r h'=>r=.tup [.d (.sl 1 (qAj (if qDj x=true then qAw 4 x.toNat else []))),.I (if qDj x=true then 0 else 10)]∧h'=[]):=by
 have hel:=qFf x
 have hoc:qDj x=true→Spec Tryz.prog 245 [.I x,.I 4] [] (fun r h'=>r=.tup [.d (.sl 1 (qAj (qAw 4 x.toNat))),.I 0]∧h'=[]):=fun h=>by
  have hr:=elemG_range h
  have:=qDn x.toNat 4 (by omega) (by omega)
  rw [Int.toNat_of_nonneg (by omega)] at this
  exact this
 generalize qAw 4 x.toNat=bs at hoc
 generalize qDj x=c at hel hoc
 refine qAb hT Tryz.func179 rfl rfl rfl rfl ?_;intro E hE
 refine ww ?_
 refine wwc hel ?_
 refine ww ?_
 refine qAa rfl (fun h1=>?_) (fun h1=>?_)
 ·obtain rfl:c=false:=by simpa using h1
  refine ww ?_
  exact wwr
 ·obtain rfl:c=true:=by simpa using h1
  have hoc:=hoc rfl
  refine ww ?_
  refine wwc hoc ?_
  refine ww ?_
  exact wwr
theorem qIn (n k:Nat) (h:n < 9223372036854775808):IntKind.u8.wrap (Int.fdiv (n:Int) (2 ^ (min ((k:Int)).toNat IntKind.i64.bits)))=((UInt8.ofNat (n / 2 ^ (min k 64) % 256)).toNat:Int):=by
 rw [show min ((k:Int)).toNat IntKind.i64.bits=min k 64 by simp [IntKind.bits],qDy,qCi,toNat_ofNat (Nat.mod_lt _ (by omega))];simp
theorem qVb (n:Nat) (hn:n < 9223372036854775808):Spec Tryz.prog 206 [.I (n:Int)] [] (fun r h'=>r=.d (.sl 1 (qAj (qAw 4 n)))∧h'=[]):=by
 have h0:IntKind.u8.wrap (n:Int)=((UInt8.ofNat (n % 256)).toNat:Int):=by rw [qCi,toNat_ofNat (Nat.mod_lt _ (by omega))];simp
 have h1:=qIn n 8 hn
 have h2:=qIn n 16 hn
 have h3:=qIn n 24 hn
 have ho:qAw 4 n=[UInt8.ofNat (n / 2 ^ 24 % 256),UInt8.ofNat (n / 2 ^ 16 % 256),UInt8.ofNat (n / 2 ^ 8 % 256),UInt8.ofNat (n % 256)]:=by
  simp only [qAw,Nat.div_div_eq_div_mul];rfl
 refine qAb hT Tryz.func206 rfl rfl rfl rfl ?_;intro E hE
 refine ww ?_
 exact vCz ⟨rfl,rfl⟩ rfl (.dat' (by rw [ho];show [[Dat.int .u8 _],[Dat.int .u8 _],[Dat.int .u8 _],[Dat.int .u8 _]]=_;exact congr (congrArg _ (congrArg (fun z=>[Dat.int .u8 z]) h3)) (congr (congrArg _ (congrArg (fun z=>[Dat.int .u8 z]) h2)) (congr (congrArg _ (congrArg (fun z=>[Dat.int .u8 z]) h1)) (congr (congrArg _ (congrArg (fun z=>[Dat.int .u8 z]) h0)) rfl))))) rfl rfl rfl rfl
theorem qUu (x:Int):Spec Tryz.prog 128 [.I x] [] (fun r h'=>r=.tup [.d (.sl 1 (qAj (if qDj x=true then qAw 4 x.toNat else []))),.I (if qDj x=true then 0 else 10)]∧h'=[]):=by
 have hel:=qHo x
 have hoc:qDj x=true→Spec Tryz.prog 206 [.I x] [] (fun r h'=>r=.d (.sl 1 (qAj (qAw 4 x.toNat)))∧h'=[]):=fun h=>by
  have hr:=elemG_range h
  have:=qVb x.toNat (by omega)
  rw [Int.toNat_of_nonneg (by omega)] at this
  exact this
 generalize qAw 4 x.toNat=bs at hoc
 generalize qDj x=c at hel hoc
 refine qAb hT Tryz.func128 rfl rfl rfl rfl ?_;intro E hE
 refine ww ?_
 refine wwc hel ?_
 refine ww ?_
 refine qAa rfl (fun h1=>?_) (fun h1=>?_)
 ·obtain rfl:c=false:=by simpa using h1
  refine ww ?_
  exact wwr
 ·obtain rfl:c=true:=by simpa using h1
  have hoc:=hoc rfl
  refine ww ?_
  refine wwc hoc ?_
  refine ww ?_
  exact wwr
def qIr (key:Int):List UInt8×Int:=if qDj key=true then qEf 15 [.mk 4 (qAw 4 key.toNat) []] else ([],10)
theorem qXx (key:Int):Spec Tryz.prog 96 [.I key] [] (fun r h'=>r=.tup [.d (.sl 1 (qAj (qIr key).1)),.d (.int .i64 (qIr key).2)]∧h'=[]):=by
 have he:=qGf key
 have hlen:=octB_length 4 key.toNat
 have hw1:=wrL_one_le 4 (qAw 4 key.toNat) []
 have hw:=qGv 15 (by omega) [.mk 4 (qAw 4 key.toNat) []] (by simp) ⟨⟨by omega,by omega,by simp,trivial⟩,trivial⟩ (by simp [qAu,qCg]) (by simp only [wrL,List.length_nil] at hw1 ⊢;omega)
 unfold qIr
 generalize qDj key=c at he
 generalize qAw 4 key.toNat=bs at he hw
 generalize qEf 15 [.mk 4 bs []]=q at hw
 refine qAb hT Tryz.func96 rfl rfl rfl rfl ?_;intro E hE
 refine ww ?_
 refine wwc he ?_
 cases c
 ·refine ww ?_
  refine qAa rfl (fun h1=>?_) (fun h1=>?_)
  ·refine ww ?_
   exact wwr
  ·exact absurd h1 (by simp)
 ·refine ww ?_
  refine qAa rfl (fun h1=>?_) (fun h1=>?_)
  ·exact absurd h1 (by simp)
  ·refine ww ?_
   refine wwc hw ?_
   refine ww ?_
   exact wwr
end Tdoc
namespace Tdoc
open Go
theorem powX_eq:∀ (m x k out:Nat),k < 2 ^ m→out < pG→qPe m x k out=out*x ^ k % pG
 | 0,x,k,out,hk,ho=>by
  have:k=0:=by simpa using hk
  subst this
  rw [qPe,Nat.pow_zero,Nat.mul_one,Nat.mod_eq_of_lt ho]
 | m+1,x,k,out,hk,ho=>by
  rw [qPe]
  by_cases h0:k=0
  ·subst h0;rw [if_pos rfl,Nat.pow_zero,Nat.mul_one,Nat.mod_eq_of_lt ho]
  ·rw [if_neg h0]
   have hk2:k / 2 < 2 ^ m:=by rw [Nat.pow_succ] at hk;omega
   have hpg:0 < pG:=by decide
   have hsq:(x*x % pG) ^ (k / 2) % pG=x ^ (2*(k / 2)) % pG:=by rw [← Nat.pow_mod,Nat.pow_mul,Nat.pow_two]
   by_cases h1:k % 2=1
   ·rw [if_pos h1,powX_eq m _ _ _ hk2 (Nat.mod_lt _ hpg),Nat.mul_mod,Nat.mod_mod,hsq,← Nat.mul_mod]
    have e:k=2*(k / 2)+1:=by omega
    conv=>rhs;rw [e,Nat.pow_succ]
    rw [Nat.mul_assoc,Nat.mul_comm x,← Nat.mul_assoc,Nat.mul_assoc out,← Nat.mul_assoc]
   ·rw [if_neg h1,powX_eq m _ _ _ hk2 ho,Nat.mul_mod,hsq,← Nat.mul_mod]
    have e:k=2*(k / 2):=by omega
    conv=>rhs;rw [e]
def vGv (q:Nat):Nat→Bool
 | 0=>true
 | d+1=>(Nat.ble (d+1) 1||!Nat.beq (q % (d+1)) 0)&&vGv q d
theorem noDiv_at {q:Nat}:∀ {n d:Nat},vGv q n=true→2≤d→d≤n→q % d≠0
 | 0,d,_,h1,h2=>by omega
 | n+1,d,h,h1,h2=>by
  simp only [vGv,Bool.and_eq_true,Bool.or_eq_true,Bool.not_eq_true'] at h
  by_cases he:d=n+1
  ·subst he
   rcases h.1 with h3 | h3
   ·have:=Nat.le_of_ble_eq_true h3;omega
   ·exact Nat.ne_of_beq_eq_false h3
  ·exact noDiv_at h.2 h1 (by omega)
theorem qG_noDiv:vGv qG 32768=true:=by kernel_rfl
theorem qG_coprime {k:Nat} (h1:0 < k) (h2:k < qG):Nat.gcd k qG=1:=by
 have hd:Nat.gcd k qG ∣ qG:=Nat.gcd_dvd_right k qG
 have hk:Nat.gcd k qG≤k:=Nat.gcd_le_left _ h1
 have hp:0 < Nat.gcd k qG:=Nat.gcd_pos_of_pos_left _ h1
 generalize Nat.gcd k qG=g at hd hk hp
 obtain ⟨c,hc⟩:=hd
 by_cases hg:g=1
 ·exact hg
 exfalso
 have hq:qG=1073741789:=rfl
 have hc2:2≤c:=by
  rcases Nat.lt_or_ge c 2 with h | h
  ·have:c=0∨c=1:=by omega
   rcases this with rfl | rfl
   ·omega
   ·omega
  ·exact h
 rcases Nat.lt_or_ge g 32769 with hl | hl
 ·exact noDiv_at qG_noDiv (d:=g) (by omega) (by omega) (by rw [hc];exact Nat.mul_mod_right g c)
 ·rcases Nat.lt_or_ge c 32769 with hm | hm
  ·exact noDiv_at qG_noDiv (d:=c) hc2 (by omega) (by rw [hc];exact Nat.mul_mod_left g c)
  ·have:=Nat.mul_le_mul hl hm
   omega
theorem qYw:4 ^ qG % pG=1:=by
 have h:qPe 31 4 qG 1=1:=by kernel_rfl
 rw [powX_eq 31 4 qG 1 (by decide) (by decide),Nat.one_mul] at h
 exact h
theorem qGz {a k:Nat} (h:a ^ k % pG=1) (m:Nat):a ^ (k*m) % pG=1:=by
 rw [Nat.pow_mul,Nat.pow_mod,h,Nat.one_pow];rfl
theorem qWf (a:Nat) (m n:Nat):a ^ m % pG=1→a ^ n % pG=1→a ^ (Nat.gcd m n) % pG=1:=by
 induction m,n using Nat.gcd.induction with
 | H0 n=>intro _ h;simpa using h
 | H1 m n hm ih =>
  intro h1 h2
  rw [Nat.gcd_rec]
  refine ih ?_ h1
  have e:n=m*(n / m)+n % m:=(Nat.div_add_mod n m).symm
  rw [e,Nat.pow_add,Nat.mul_mod,qGz h1,Nat.one_mul,Nat.mod_mod] at h2
  exact h2
theorem vGs {k:Nat} (hk:1≤k∧k < qG):qDj ((4 ^ k % pG:Nat):Int)=true:=by
 have hone:4 ^ k % pG≠1:=fun h=>by
  have:=qWf 4 k qG h qYw
  rw [qG_coprime hk.1 hk.2] at this
  exact absurd this (by decide)
 have hpow:(4 ^ k % pG) ^ qG % pG=1:=by
  rw [← Nat.pow_mod,← Nat.pow_mul,Nat.mul_comm,qGz qYw]
 have hpos:0 < 4 ^ k % pG:=by
  rcases Nat.eq_zero_or_pos (4 ^ k % pG) with h | h
  ·rw [h,Nat.zero_pow (by decide)] at hpow
   exact absurd hpow (by decide)
  ·exact h
 have hlt:4 ^ k % pG < 2147483579:=Nat.mod_lt _ (by decide)
 unfold qDj qEy
 rw [Int.toNat_natCast,powX_eq 30 _ _ _ (by decide) (by decide),Nat.one_mul,hpow]
 generalize 4 ^ k % pG=x at hone hpos hlt
 have h1:(0:Int) < (x:Int):=by omega
 have h2:((x:Nat):Int)≠1:=by omega
 have h3:(x:Int) < 2147483579:=by omega
 rw [decide_eq_true (show (0:Int) < (x:Int)∧(x:Int) < 2147483579 from ⟨h1,h3⟩),decide_eq_true h2]
 rfl
open Go Go.Proofs
theorem wrapu64 {n:Int} (h:0≤n∧n < 18446744073709551616):IntKind.u64.wrap n=n:=by
 simp only [IntKind.wrap,IntKind.signed,IntKind.bits]
 simp
 omega
def blen (k:Nat):Nat:=if k=0 then 0 else k.log2+1
theorem qSc (k:Nat):k < 2 ^ blen k:=by
 unfold blen
 split
 ·rename_i h;subst h;decide
 ·exact Nat.lt_log2_self
theorem qSd {k:Nat} (h:0 < k):1≤blen k∧2 ^ (blen k-1)≤k:=by
 unfold blen
 rw [if_neg (by omega)]
 exact ⟨by omega,by rw [Nat.add_sub_cancel];exact Nat.log2_self_le (by omega)⟩
theorem vKp {k m:Nat} (h1:k < 2 ^ m) (h2:m=0∨2 ^ (m-1)≤k):blen k=m:=by
 rcases Nat.eq_zero_or_pos k with h0 | h0
 ·subst h0
  rcases h2 with h2 | h2
  ·subst h2;rfl
  ·exact absurd h2 (by have:=Nat.two_pow_pos (m-1);omega)
 ·obtain ⟨a1,a2⟩:=qSd h0
  have a3:=qSc k
  rcases h2 with h2 | h2
  ·subst h2;simp at h1;omega
  ·have b1:blen k-1 < m:=(Nat.pow_lt_pow_iff_right (a:=2) (by omega)).1 (Nat.lt_of_le_of_lt a2 h1)
   have b2:m-1 < blen k:=(Nat.pow_lt_pow_iff_right (a:=2) (by omega)).1 (Nat.lt_of_le_of_lt h2 a3)
   rcases Nat.eq_zero_or_pos m with h | h
   ·subst h;simp at h1;omega
   ·omega
theorem qZh {k n:Nat} (h:2 ^ n≤k):blen k=n+blen (k / 2 ^ n):=by
 have hp:0 < k / 2 ^ n:=Nat.div_pos h (Nat.two_pow_pos n)
 obtain ⟨a1,a2⟩:=qSd hp
 have a3:=qSc (k / 2 ^ n)
 refine vKp ?_ (.inr ?_)
 ·rw [Nat.pow_add,Nat.mul_comm];exact (Nat.div_lt_iff_lt_mul (Nat.two_pow_pos n)).1 a3
 ·rw [show n+blen (k / 2 ^ n)-1=(blen (k / 2 ^ n)-1)+n by omega,Nat.pow_add]
  exact (Nat.le_div_iff_mul_le (Nat.two_pow_pos n)).1 a2
theorem qXb {k i:Nat} (h:i < blen k):k / 2 ^ i≠0:=by
 have h0:0 < k:=by
  rcases Nat.eq_zero_or_pos k with h0 | h0
  ·subst h0;simp [blen] at h
  ·exact h0
 have:=(qSd h0).2
 have h3:2 ^ i≤2 ^ (blen k-1):=Nat.pow_le_pow_right (by omega) (by omega)
 have:=Nat.div_pos (Nat.le_trans h3 this) (Nat.two_pow_pos i)
 omega
theorem vKq {k:Nat} (h:k≤qG):blen k≤30:=by
 rcases Nat.eq_zero_or_pos k with h0 | h0
 ·subst h0;simp [blen]
 ·obtain ⟨a1,a2⟩:=qSd h0
  have hq:qG < 2 ^ 30:=by decide
  have:=(Nat.pow_lt_pow_iff_right (a:=2) (by omega)).1 (Nat.lt_of_le_of_lt a2 (Nat.lt_of_le_of_lt h hq))
  omega
set_option maxRecDepth 100000 in
theorem qZg:∀ n,n < 256→blen n=if n=0 then 0 else if n=1 then 1 else if n < 4 then 2 else if n < 8 then 3 else if n < 16 then 4 else if n < 32 then 5 else if n < 64 then 6 else if n < 128 then 7 else 8:=by
 have h:∀ n,n∈List.range 256→blen n=if n=0 then 0 else if n=1 then 1 else if n < 4 then 2 else if n < 8 then 3 else if n < 16 then 4 else if n < 32 then 5 else if n < 64 then 6 else if n < 128 then 7 else 8:=by decide
 exact fun n hn=>h n (List.mem_range.2 hn)
def vDl:List UInt8:=(List.range 256).map fun n=>UInt8.ofNat (if n=0 then 0 else if n=1 then 1 else if n < 4 then 2 else if n < 8 then 3 else if n < 16 then 4 else if n < 32 then 5 else if n < 64 then 6 else if n < 128 then 7 else 8)
set_option maxRecDepth 100000 in
theorem lenTab_at {n:Nat} (h:n < 256):qDs vDl (n:Int)=((blen n:Nat):Int):=by
 have hc:∀ n,n∈List.range 256→qDs vDl ((n:Nat):Int)=((if n=0 then 0 else if n=1 then 1 else if n < 4 then 2 else if n < 8 then 3 else if n < 16 then 4 else if n < 32 then 5 else if n < 64 then 6 else if n < 128 then 7 else 8:Nat):Int):=by decide
 rw [hc n (List.mem_range.2 h),qZg n h]
theorem qXq (k:Nat) (hk:k < 4294967296):Spec Tryz.prog 338 [.d (.int .u64 (k:Int))] [] (fun r h'=>r=.I (blen k:Int)∧h'=[]):=by
 refine qAb hT Tryz.func338 rfl rfl rfl rfl ?_;intro E hE
 refine ww ?_
 refine qAa rfl (fun h1=>?_) (fun h1=>?_)
 ·exact absurd h1 (by simp;omega)
 refine qBw ?_
 refine qCf (ι:=Nat×Nat) (fun y=>[(0,.d (.int .u64 (y.1:Int))),(2,.I (y.2:Int))]) (fun _=>[]) (fun y=>y.1 < 65536∧y.2+blen y.1=blen k∧y.2≤16) ?_ ?_
 ·refine ww ?_
  refine qAa rfl (fun h2=>?_) (fun h2=>?_)
  ·have h2':65536≤k:=by simp at h2;omega
   have hb:=qZh (k:=k) (n:=16) h2'
   have hs:Int.fdiv (k:Int) (2 ^ (min (16:Int).toNat IntKind.u64.bits))=((k / 2 ^ 16:Nat):Int):=qDy k 16
   refine ww ?_
   exact ⟨(k / 2 ^ 16,16),⟨by simp only;omega,hb.symm,by omega⟩,⟨.int hs,.refl _,trivial⟩,HLe.refl _⟩
  ·have h2':k < 65536:=by simp at h2;omega
   refine ww ?_
   exact ⟨(k,0),⟨h2',Nat.zero_add _,by omega⟩,q1,HLe.refl _⟩
 rintro ⟨y,n⟩ ⟨hy,hn,hn2⟩
 simp only at hy hn hn2 ⊢
 refine qCf (ι:=Nat×Nat) (fun y=>[(0,.d (.int .u64 (y.1:Int))),(2,.I (y.2:Int))]) (fun _=>[]) (fun y=>y.1 < 256∧y.2+blen y.1=blen k∧y.2≤24) ?_ ?_
 ·refine ww ?_
  refine qAa rfl (fun h2=>?_) (fun h2=>?_)
  ·have h2':256≤y:=by simp at h2;omega
   have hb:=qZh (k:=y) (n:=8) h2'
   have hs:Int.fdiv (y:Int) (2 ^ (min (8:Int).toNat IntKind.u64.bits))=((y / 2 ^ 8:Nat):Int):=qDy y 8
   refine ww ?_
   exact ⟨(y / 2 ^ 8,n+8),⟨by simp only;omega,by simp only;omega,by simp only;omega⟩,⟨.int hs,.int (by rw [qAe (by omega)];omega),trivial⟩,HLe.refl _⟩
  ·have h2':y < 256:=by simp at h2;omega
   refine ww ?_
   exact ⟨(y,n),⟨h2',hn,by simp only;omega⟩,q1,HLe.refl _⟩
 rintro ⟨z,m⟩ ⟨hz,hm,hm2⟩
 simp only at hz hm hm2 ⊢
 have hw:IntKind.u8.wrap (z:Int)=(z:Int):=wrapu8 (by omega)
 have hat:=lenTab_at hz
 have hbz:blen z≤8:=by rw [qZg z hz];repeat (first | omega | split)
 refine ww ?_
 refine rq ⟨rfl,rfl⟩ rfl (AV.le.int ?_)
 show IntKind.i64.wrap ((m:Int)+IntKind.i64.wrap (qDs vDl (IntKind.u8.wrap (z:Int))))=_
 rw [hw,hat,qAe (n:=((blen z:Nat):Int)) (by omega),qAe (by omega)]
 omega
theorem vFj (k:Nat) (hk:k < 4294967296):Spec Tryz.prog 268 [.d (.int .u64 (k:Int))] [] (fun r h'=>r=.I (blen k:Int)∧h'=[]):=by
 refine qAb hT Tryz.func268 rfl rfl rfl rfl ?_;intro E hE
 refine ww ?_
 refine qAa rfl (fun h1=>?_) (fun h1=>?_)
 ·exact absurd h1 (by decide)
 refine ww ?_
 refine wwc (qXq k hk) ?_
 refine ww ?_
 exact wwr
theorem powerK_spec (x k:Nat) (hx:x < pG) (hk:k≤qG):Spec Tryz.prog 173 [.I (x:Int),.I (k:Int)] [] (fun r h'=>r=.I ((x ^ k % pG:Nat):Int)∧h'=[]):=by
 have hq:qG=1073741789:=rfl
 have hlen:Spec Tryz.prog 268 [.d (.int .u64 (IntKind.u64.wrap (k:Int)))] [] (fun r h'=>r=.I (blen k:Int)∧h'=[]):=by
  rw [wrapu64 (by omega)];exact vFj k (by omega)
 have hfin:=powX_eq (blen k) x k 1 (qSc k) (by decide)
 rw [Nat.one_mul] at hfin
 have hb30:=vKq hk
 have hbz:k / 2 ^ blen k=0:=Nat.div_eq_of_lt (qSc k)
 have hne:∀ i,i < blen k→k / 2 ^ i≠0:=fun i h=>qXb h
 generalize x ^ k % pG=fin at hfin
 generalize blen k=bl at hlen hfin hb30 hbz hne
 refine qAb hT Tryz.func173 rfl rfl rfl rfl ?_;intro E hE
 refine ww ?_
 refine wwc hlen ?_
 refine ww ?_
 refine qAq (ι:=Nat×Nat×Nat) (fun y=>[(0,.I (y.2.1:Int)),(1,.I (k:Int)),(5,.I (y.2.2:Int)),(9,.I (bl:Int)),(10,.I (y.1:Int))]) (fun _=>[])
  (fun y=>y.1≤bl∧y.2.1 < pG∧y.2.2 < pG∧qPe (bl-y.1) y.2.1 (k / 2 ^ y.1) y.2.2=fin) (fun y=>bl-y.1) (0,x,1) ⟨by omega,hx,show 1 < pG by decide,by simpa using hfin⟩ q1 (HLe.refl _) ?_
 rintro ⟨i,x,out⟩ ⟨hi,hx,ho,hg⟩
 simp only at hi hx ho hg ⊢
 refine ww ?_
 refine qAa rfl (fun h1=>?_) (fun h1=>?_)
 ·have h1':i < bl:=by simp at h1;omega
  have hq:=hne i h1'
  have hq2:k / 2 ^ i < 9223372036854775808:=Nat.lt_of_le_of_lt (Nat.div_le_self _ _) (by omega)
  obtain ⟨m,hm⟩:∃ m,bl-i=m+1:=⟨bl-i-1,by omega⟩
  rw [hm,qPe,if_neg hq,Nat.div_div_eq_div_mul,← Nat.pow_succ] at hg
  have hm':m=bl-(i+1):=by omega
  subst hm'
  have hsh:Int.fdiv (k:Int) (2 ^ (min ((i:Int)).toNat IntKind.i64.bits))=((k / 2 ^ i:Nat):Int):=by
   rw [show min ((i:Int)).toNat IntKind.i64.bits=i by simp [IntKind.bits];omega]
   exact qDy k i
  have hand:IntKind.i64.wrap ((BitVec.ofInt IntKind.i64.bits (Int.fdiv (k:Int) (2 ^ (min ((i:Int)).toNat IntKind.i64.bits))) &&& BitVec.ofInt IntKind.i64.bits 1).toNat:Int)=((k / 2 ^ i % 2:Nat):Int):=by
   rw [hsh]
   have:=qSh (a:=k / 2 ^ i) (b:=1) hq2 (by omega)
   rw [Nat.and_one_is_mod] at this
   exact this
  have hxx:=mulP_lt hx hx
  have hox:=mulP_lt ho hx
  have hm1:IntKind.i64.wrap ((x:Int)*(x:Int))=((x*x:Nat):Int):=by rw [← Int.natCast_mul];exact qAe (by omega)
  have hm2:IntKind.i64.wrap ((out:Int)*(x:Int))=((out*x:Nat):Int):=by rw [← Int.natCast_mul];exact qAe (by omega)
  have ht1:Int.tmod (IntKind.i64.wrap ((x:Int)*(x:Int))) 2147483579=((x*x % pG:Nat):Int):=by rw [hm1];rfl
  have ht2:Int.tmod (IntKind.i64.wrap ((out:Int)*(x:Int))) 2147483579=((out*x % pG:Nat):Int):=by rw [hm2];rfl
  have hwi:IntKind.i64.wrap ((i:Int)+1)=((i+1:Nat):Int):=by rw [qAe (by omega)];omega
  have hl1:x*x % pG < pG:=Nat.mod_lt _ (by decide)
  have hl2:out*x % pG < pG:=Nat.mod_lt _ (by decide)
  generalize k / 2 ^ i % 2=bt at hand hg
  refine ww ?_
  refine qAa rfl (fun h2=>?_) (fun h2=>?_)
  ·have h2':bt=1:=by rw [hand] at h2;simp at h2;omega
   rw [if_pos h2'] at hg
   refine ww ?_
   exact ⟨(i+1,x*x % pG,out*x % pG),⟨h1',hl1,hl2,hg⟩,by simp only;omega,⟨.int ht1,.refl _,.int ht2,.refl _,.int hwi,trivial⟩,HLe.refl _⟩
  ·have h2':¬ bt=1:=by rw [hand] at h2;simp at h2;omega
   rw [if_neg h2'] at hg
   refine ww ?_
   exact ⟨(i+1,x*x % pG,out),⟨h1',hl1,ho,hg⟩,by simp only;omega,⟨.int ht1,.refl _,.refl _,.refl _,.int hwi,trivial⟩,HLe.refl _⟩
 ·have h1':i=bl:=by simp at h1;omega
  subst h1'
  have hg':out=fin:=by rw [← hg,Nat.sub_self];rfl
  subst hg'
  refine ww ?_
  exact wwr
def qQy (n:Int):Int:=if 48≤n∧n≤57 then n-48 else if 65≤n∧n≤90 then n-55 else if n=60 then 0 else -1
theorem valC_range (n:Int) : -1≤qQy n∧qQy n≤35:=by unfold qQy;split <;> (try split) <;> (try split) <;> omega
def bI (c:UInt8):Int:=(c.toNat:Int)
theorem bI_range (c:UInt8):0≤bI c∧bI c < 256:=by have:=UInt8.toNat_lt c;unfold bI;omega
def qAt:List UInt8→Bool
 | []=>true
 | c::l=>decide (0≤qQy (bI c))&&qAt l
def qVl (i:Nat):Int:=if i % 3=0 then 7 else if i % 3=1 then 3 else 1
def qDl:Nat→List UInt8→Int
 | _,[]=>0
 | i,c::l=>qVl i*qQy (bI c)+qDl (i+1) l
def qZb (s:List UInt8):List UInt8:=[UInt8.ofNat (48+qDl 0 s % 10).toNat]
def qBx (s:List UInt8):List UInt8×Int:=if qAt s=true then (qZb s,0) else ([],12)
theorem digSum_range:∀ (i:Nat) (s:List UInt8),qAt s=true→0≤qDl i s∧qDl i s≤245*s.length
 | i,[],_=>by simp [qDl]
 | i,c::l,h=>by
  simp only [qAt,Bool.and_eq_true,decide_eq_true_eq] at h
  have ih:=digSum_range (i+1) l h.2
  have hv:=valC_range (bI c)
  have hw:qVl i=7∨qVl i=3∨qVl i=1:=by unfold qVl;split <;> (try split) <;> simp
  rw [qDl]
  simp only [List.length_cons]
  rcases hw with hw | hw | hw <;> rw [hw] <;> omega
def qFm:Bool→List UInt8→Bool
 | _,[]=>true
 | b,c::l=>if c=32 then !b&&!l.isEmpty&&qFm true l else decide (65≤bI c∧bI c≤90)&&qFm false l
def qMj (s:List UInt8):List UInt8:=s.map fun c=>if c=32 then 60 else c
def qBo (s:List UInt8) (n:Nat):List UInt8:=s++List.replicate (n-s.length) 60
theorem wideS_length (s:List UInt8) (n:Nat):(qBo s n).length=max s.length n:=by simp [qBo];omega
def qTp (sur giv:List UInt8):List UInt8:=qMj sur++(if giv=[] then [] else [60,60]++qMj giv)
def qGq (sur giv:List UInt8) (w:Int):List UInt8×Int :=
 if qFm true sur=false∨qFm true giv=false∨sur=[] then ([],14)
 else if w < 1∨w > 64 then ([],2) else ((qBo (qTp sur giv) w.toNat).take w.toNat,0)
def qNu (y:Int):Bool:=decide (y.tmod 4=0)&&decide (y≠1900)
def qGr (y m:Int):Int:=if m=4∨m=6∨m=9∨m=11 then 30 else if m=2 then (if qNu y=true then 29 else 28) else 31
theorem longR_range (y m:Int):28≤qGr y m∧qGr y m≤31:=by unfold qGr;split <;> (try split) <;> (try split) <;> omega
def qCv:Nat→Int
 | 0=>0
 | k+1=>qCv k+365+(if qNu (1900+(k:Int))=true then 1 else 0)
def qFh (y:Int):Nat→Int
 | 0=>0
 | k+1=>qFh y k+qGr y ((k:Int)+1)
def ofF (y m d:Int):Int×Int:=if y < 1900∨y > 2099∨m < 1∨m > 12∨d < 1∨d > qGr y m then (0,8) else (d-1+qCv (y-1900).toNat+qFh y (m-1).toNat,0)
theorem yearsR_range:∀ (k:Nat),0≤qCv k∧qCv k≤366*k
 | 0=>by simp [qCv]
 | k+1=>by have:=yearsR_range k;rw [qCv];split <;> omega
theorem monthsR_range (y:Int):∀ (k:Nat),0≤qFh y k∧qFh y k≤31*k
 | 0=>by simp [qFh]
 | k+1=>by have:=monthsR_range y k;have:=longR_range y ((k:Int)+1);rw [qFh];omega
def qFo (c:UInt8):Bool:=decide (48≤bI c∧bI c≤57)
def qHa (s:List UInt8) (i:Nat):Int:=10*(bI (s.getD i 0)-48)+(bI (s.getD (i+1) 0)-48)
def qFp (s:List UInt8) (first:Int):Int×Int :=
 if first < 1900∨first > 2000 then (0,3) else if s.length≠6 then (0,1) else if s.all qFo=false then (0,1)
 else let y:=first-first.tmod 100+qHa s 0
  ofF (if y < first then y+100 else y) (qHa s 2) (qHa s 4)
structure Zon where
 fmt:Int
 kind:List UInt8
 state:List UInt8
 sur:List UInt8
 giv:List UInt8
 num:List UInt8
 nat:List UInt8
 bir:List UInt8
 sex:List UInt8
 exp:List UInt8
 opt:List UInt8
 sec:List UInt8
def qLu (z:Zon):List AV:=[.d (.int .i64 z.fmt),.d (.str z.kind),.d (.str z.state),.d (.str z.sur),.d (.str z.giv),.d (.str z.num),.d (.str z.nat),.d (.str z.bir),.d (.str z.sex),.d (.str z.exp),.d (.str z.opt),.d (.str z.sec)]
def zAV (z:Zon):AV:=.agg (qLu z)
def qHz (c:UInt8):Bool:=decide (65≤bI c∧bI c≤90)
def qCc (s:List UInt8) (most:Int):Bool:=decide (1≤s.length∧(s.length:Int)≤most)&&s.all qHz
def qNj (s:List UInt8):Bool:=s.all fun c=>decide (c≠60∧0≤qQy (bI c))
def qDb (s:List UInt8):Int:=if s=[60,60] then -1 else if qFo (s.getD 0 0)=true∧qFo (s.getD 1 0)=true then qHa s 0 else -2
def qIp (s:List UInt8):Bool:=decide (s.length=6)&&(decide (qDb (s.take 2) > -2)&&(decide (qDb ((s.take 4).drop 2) = -1∨1≤qDb ((s.take 4).drop 2)∧qDb ((s.take 4).drop 2)≤12)&&decide (qDb (s.drop 4) = -1∨1≤qDb (s.drop 4)∧qDb (s.drop 4)≤31)))
def qEm (s:List UInt8):Bool:=qAt s&&(decide (s=[])||(decide (s.head?≠some 60)&&decide (s.getLast?≠some 60)))
def vCx (z:Zon):Int:=(if z.fmt=1 then 15 else if z.fmt=2 then 7 else 14)-(if z.num.length > 9 then (z.num.length:Int)-9+2 else 0)
def qRf (f:Int):Int:=if f=1 then 20 else if f=2 then 14 else 9
def validZ (z:Zon):Int :=
 if z.fmt < 1∨z.fmt > 3∨qCc z.kind 2=false∨qCc z.state 3=false∨qFm true z.sur=false∨z.sur=[]∨qFm true z.giv=false∨z.num=[]∨qNj z.num=false then 14
 else if (z.num.length:Int) > qRf z.fmt then 2
 else if qCc z.nat 3=false then 14
 else if qIp z.bir=false then 8
 else if z.sex≠[77]∧z.sex≠[70]∧z.sex≠[60] then 14
 else if (qFp z.exp 2000).2≠0 then 8
 else if qEm z.opt=false∨qEm z.sec=false∨(z.sec≠[]∧z.fmt≠1) then 14
 else if (z.opt.length:Int) > vCx z∨(z.sec.length:Int) > 11 then 2
 else 0
def qAs (s:List UInt8):List UInt8:=s++(qBx s).1
def qAy (n:List UInt8):List UInt8×List UInt8:=if n.length≤9 then (qAs (qBo n 9),[]) else (n.take 9++[60],n.drop 9++(qBx n).1++[60])
def vAj (f:Int):Int:=if f=1 then 30 else if f=2 then 31 else 39
def qJo (s:List UInt8) (a b:Nat):List UInt8:=(s.take b).drop a
def qCp (z:Zon):List (List UInt8) :=
 let head:=qBo z.kind 2++qBo z.state 3
 let names:=(qGq z.sur z.giv (vAj z.fmt)).1
 let bd:=qAs z.bir
 let ed:=qAs z.exp
 let nation:=qBo z.nat 3
 if z.fmt=1 then
  let a:=head++(qAy z.num).1++qBo ((qAy z.num).2++z.opt) 15
  let b:=bd++z.sex++ed++nation++qBo z.sec 11
  [a,b++(qBx (qJo a 5 30++qJo b 0 7++qJo b 8 15++qJo b 18 29)).1,names]
 else if z.fmt=2 then
  let b:=(qAy z.num).1++nation++bd++z.sex++ed++qBo ((qAy z.num).2++z.opt) 7
  [head++names,b++(qBx (qJo b 0 10++qJo b 13 20++qJo b 21 35)).1]
 else
  let o:=if z.opt=[] then [60] else (qBx (qBo z.opt 14)).1
  let b:=(qAy z.num).1++nation++bd++z.sex++ed++qBo z.opt 14++o
  [head++names,b++(qBx (qJo b 0 10++qJo b 13 20++qJo b 21 43)).1]
end Tdoc
namespace Tdoc
open Go
def nbV (v:List UInt8):Nat:=v.foldl (fun n c=>256*n+c.toNat) 0
def qFj (seed:List UInt8) (n:Nat):List UInt8:=(((List.range ((n+31) / 32)).map fun i=>qLa (seed++1::qAw 4 i)).flatten).take n
def qBe (seed:List UInt8):List UInt8:=qLa (seed++[0])
def qCn (seed:List UInt8):Nat:=1+nbV ((qFj seed 8).take 7) % (qG-1)
theorem secS_range (seed:List UInt8):1≤qCn seed∧qCn seed < qG:=by
 have h:nbV ((qFj seed 8).take 7) % (qG-1) < qG-1:=Nat.mod_lt _ (by decide)
 have hq:qG=1073741789:=rfl
 unfold qCn
 omega
theorem drawS_one (seed:List UInt8) (n:Nat) (h1:1≤n) (h2:n≤32):qFj seed n=(qLa (seed++1::qAw 4 0)).take n:=by
 unfold qFj
 rw [show (n+31) / 32=1 by omega]
 simp [List.range_succ]
def qNn (n:Nat) (msg:List UInt8) (m:Nat):Nat:=nbV ((qLa (qAw 4 n++msg)).take 7) % m
def qFg (k:Nat):Nat:=4 ^ k % pG
def qEx (k:Nat) (msg:List UInt8):Nat×Nat :=
 (qNn (qFg (1+qNn k msg (qG-1))) msg qG,(1+qNn k msg (qG-1)+qNn (qFg (1+qNn k msg (qG-1))) msg qG*k) % qG)
theorem numS_lt (n:Nat) (msg:List UInt8) {m:Nat} (h:0 < m):qNn n msg m < m:=Nat.mod_lt _ h
theorem signS_range (k:Nat) (msg:List UInt8):(qEx k msg).1 < qG∧(qEx k msg).2 < qG:=⟨numS_lt _ _ (by decide),Nat.mod_lt _ (by decide)⟩
theorem pubS_elem {k:Nat} (h:1≤k∧k < qG):qDj ((qFg k:Nat):Int)=true:=vGs h
theorem pubS_lt (k:Nat):qFg k < pG:=Nat.mod_lt _ (by decide)
structure Nal where
 sta:List UInt8
 kind:Int
 num:Int
 iss:Int
 own:Int
 key:Int
 frm:Int
 unt:Int
 til:Int
 sE:Int
 sS:Int
def qCt (c:Nal):List Dat:=[.str c.sta,.int .i64 c.kind,.int .i64 c.num,.int .i64 c.iss,.int .i64 c.own,.int .i64 c.key,.int .i64 c.frm,.int .i64 c.unt,.int .i64 c.til,.int .i64 c.sE,.int .i64 c.sS]
def qAm (l:List Nal):List (List Dat):=l.map qCt
def qAv (c:Nal):List AV:=[.d (.str c.sta),.d (.int .i64 c.kind),.d (.int .i64 c.num),.d (.int .i64 c.iss),.d (.int .i64 c.own),.d (.int .i64 c.key),.d (.int .i64 c.frm),.d (.int .i64 c.unt),.d (.int .i64 c.til),.d (.int .i64 c.sE),.d (.int .i64 c.sS)]
def qEb (c:Nal):AV:=.agg (qAv c)
def nl0:Nal:=⟨[],0,0,0,0,0,0,0,0,0,0⟩
def qCw (s:List UInt8):Bool:=decide (1≤s.length∧s.length≤3)&&s.all qHz
def qEu (n:Int):Bool:=decide (1≤n∧n≤1073741824)
def qCu (c:Nal):Int :=
 if qCw c.sta=false then 60
 else if c.kind < 1∨c.kind > 4 then 61
 else if qEu c.num=false∨qEu c.iss=false∨qEu c.own=false∨(decide (c.iss=c.own)≠decide (c.kind=1)) then 3
 else if qDj c.key=false then 10
 else if c.frm < 0∨c.frm > c.unt∨c.unt > c.til∨c.til > 73048 then 8 else 0
def qBk (c:Nal):Node:=.mk 48 [] [.mk 19 c.sta [],.mk 129 [UInt8.ofNat c.kind.toNat] [],.mk 130 (qAw 4 c.num.toNat) [],.mk 131 (qAw 4 c.iss.toNat) [],.mk 132 (qAw 4 c.own.toNat) [],.mk 133 (qAw 4 c.key.toNat) [],
 .mk 134 (qAw 3 c.frm.toNat++qAw 3 c.unt.toNat++qAw 3 c.til.toNat) []]
def qHg (c:Nal):List UInt8×Int:=if qCu c≠0 then ([],qCu c) else (wrL [qBk c],0)
def qBm (k:Nat) (c:Nal):Nal:={ c with sE:=((qEx k (wrL [qBk c])).1:Nat),sS:=((qEx k (wrL [qBk c])).2:Nat) }
structure Dfc where
 kind:Int
 param:Int
 signer:Int
 first:List UInt8
 last:List UInt8
def vNi (x:Dfc):List Dat:=[.int .i64 x.kind,.int .i64 x.param,.int .i64 x.signer,.str x.first,.str x.last]
def qQl (l:List Dfc):List (List Dat):=l.map vNi
structure Aut where
 sta:List UInt8
 roots:List Nal
 links:List Nal
 secs:List Nat
 signer:Nal
 lister:Nal
 sk:Nat
 lk:Nat
 next:Nat
 list:Int
 rev:List Int
 defs:List Dfc
 seed:List UInt8
def aut0:Aut:=⟨[],[],[],[],nl0,nl0,0,0,0,0,[],[],[]⟩
def encNs' (l:List Nat):List (List Dat):=l.map fun (n:Nat)=>[Dat.int .i64 (n:Int)]
def vKt (a:Aut) (rc lc sc:AV):List AV:=[.d (.str a.sta),rc,lc,sc]++qAv a.signer++qAv a.lister++[.d (.int .i64 (a.sk:Int)),.d (.int .i64 (a.lk:Int)),.d (.int .i64 (a.next:Int)),.d (.int .i64 a.list),.d (.sl 1 (a.rev.map fun n=>[.int .i64 n])),.d (.sl 5 (qQl a.defs)),.d (.sl 1 (qAj a.seed))]
def qAi (a:Aut):List AV:=vKt a (.d (.sl 11 (qAm a.roots))) (.d (.sl 11 (qAm a.links))) (.d (.sl 1 (encNs' a.secs)))
def qLl (a:Aut):AV:=.agg (qAi a)
def qGs (day n:Int):Int:=min (day+n) 73048
def qEc (a:Aut) (kind:Int) (issuer own k:Nat) (day u t:Int):Nal:=⟨a.sta,kind,a.next,issuer,own,qFg k,day,qGs day u,qGs day t,0,0⟩
def qAz (a:Aut) (day:Int):Aut :=
 let n:=a.secs.length
 let old:=a.secs.getD (n-1) 0
 let k:=qCn a.seed
 let s:=qBm old (qEc a 3 n (1000+a.next) k day 90 3740)
 let seed1:=qBe a.seed
 let a1:Aut:={ a with signer:=s,sk:=k,next:=a.next+1,seed:=seed1 }
 let k2:=qCn seed1
 let l:=qBm old (qEc a1 4 n (1000+a1.next) k2 day 365 730)
 { a1 with lister:=l,lk:=k2,next:=a1.next+1,seed:=qBe seed1 }
def qCb (a:Aut) (day:Int):Aut :=
 let k:=qCn a.seed
 let n:=a.secs.length+1
 { a with secs:=a.secs++[k],seed:=qBe a.seed,roots:=a.roots++[qBm k (qEc a 1 n n k day 1825 5475)],next:=a.next+1 }
def qZj (sta seed:List UInt8) (day:Int):Aut:=qAz (qCb ⟨sta,[],[],[],nl0,nl0,0,0,1,1,[],[],seed⟩ day) day
def qFn (a:Aut) (day:Int):Aut :=
 let n:=a.secs.length
 { a with links:=a.links++[qBm (a.secs.getD (n-2) 0) (qEc a 2 (n-1) n (a.secs.getD (n-1) 0) day 1825 5475)],next:=a.next+1 }
def vCy (a:Aut) (day:Int):Aut:=qAz (qFn (qCb a day) day) day
def qIq (sta seed:List UInt8) (day:Int):Aut×Int :=
 if qCw sta=false then (aut0,60) else if day < 0∨73048 < day then (aut0,8) else (qZj sta seed day,0)
def qVy (a:Aut) (day:Int):Aut×Int :=
 if a.secs.length=0 then (aut0,23) else if day < 0∨73048 < day then (aut0,8) else if 8≤a.secs.length then (aut0,72) else (vCy a day,0)
open Go Go.Proofs
theorem loopX_sub {f g:Rd} {e:Nat} (h:∀ p c,(f p c).2.1=0→g p c=f p c):∀ (m p c:Nat) (out:List Node),(qEl f e m p c out).2.1=0→qEl g e m p c out=qEl f e m p c out
 | 0,p,c,out,_=>rfl
 | m+1,p,c,out,h0=>by
  rw [qEl] at h0 ⊢
  rw [qEl]
  by_cases hp:p < e
  ·rw [if_pos hp] at h0 ⊢
   rw [if_pos hp]
   by_cases hf:(f p c).2.1=0
   ·rw [h p c hf]
    rw [if_neg (by simp [hf])] at h0 ⊢
    rw [if_neg (by simp [hf])]
    exact loopX_sub h m _ _ _ h0
   ·rw [if_pos hf] at h0
    exact absurd h0 hf
  ·rw [if_neg hp,if_neg hp]
theorem lenX_loose {b:List UInt8} {e q:Nat} (op:Bool) (h:(qPa b e false true q).2.1=0):qPa b e op false q=qPa b e false true q∧(qPa b e false true q).1≠-1:=by
 unfold qPa at h ⊢
 generalize qWo b (q+1) (qAr b q % 16) 0=nb at *
 generalize 2 ^ (8*(qAr b q % 16-1))=pw at *
 generalize qAr b q=x at *
 by_cases h1:e≤q
 ·simp [h1] at h
 by_cases h2:x < 128
 ·simp [h1,h2]
 by_cases h3:132 < x
 ·simp [h1,h2,h3] at h
 by_cases h4:x=128
 ·simp [h1,h2,h4] at h
 by_cases h5:e < q+1+x % 16
 ·simp [h1,h2,h3,h4,h5] at h
 by_cases h6:nb < 128∨nb / pw=0
 ·simp only [h1,h2,h3,h4,h5,h6,if_true,if_false,false_and,or_false,and_self] at h
  exact absurd h (by simp)
 ·simp only [h1,h2,h3,h4,h5,h6,if_true,if_false,false_and,or_false,and_false,Bool.false_eq_true]
  exact ⟨trivial,by omega⟩
theorem objY_sub {b:List UInt8} {g g':Nat→Rd} {e d:Nat} {t:Int} {n:Int×Int×Nat} {c:Nat} (hg:∀ e p c,(g e p c).2.1=0→g' e p c=g e p c) (hn:n.1≠-1) (h:(vFy b g e d t n c).2.1=0):vFy b g' e d t n c=vFy b g e d t n c:=by
 unfold vFy at h ⊢
 split
 ·rfl
 split
 ·rfl
 split
 ·rfl
 split
 ·rfl
 rename_i g0 g1 g2 g3
 simp only [if_neg g0,if_neg g1,if_neg g2,if_neg g3,if_neg hn] at h ⊢
 split
 ·rename_i hc
  simp only [if_pos hc] at h
  rw [loopX_sub (fun p c hf=>hg _ p c hf) _ _ _ _ h]
 ·rfl
theorem objX_sub (b:List UInt8):∀ (k e d p c:Nat),(qMw b true k e d p c).2.1=0→qMw b false k e d p c=qMw b true k e d p c
 | 0,e,d,p,c,h=>rfl
 | k+1,e,d,p,c,h=>by
  rw [qMw] at h
  rw [qMw,qMw]
  by_cases ht:(qJs b e p).2.1≠0
  ·rw [if_pos ht,if_pos ht]
  rw [if_neg ht] at h
  rw [if_neg ht,if_neg ht]
  rw [Bool.not_true,Bool.and_false] at h ⊢
  rw [Bool.not_false,Bool.and_true]
  by_cases hl:(qPa b e false true (qJs b e p).2.2).2.1=0
  ·obtain ⟨h1,h2⟩:=lenX_loose (qBd (qJs b e p).1) hl
   rw [h1]
   exact objY_sub (fun e' p c hf=>objX_sub b k e' (d+1) p c hf) h2 h
  ·unfold vFy at h
   rw [if_pos hl] at h
   exact absurd h hl
theorem parseX_sub {b:List UInt8} (h:(qEj b true).2=0):qEj b false=qEj b true:=by
 unfold qEj at h ⊢
 split
 ·rfl
 ·rename_i hb
  rw [if_neg hb] at h
  rw [loopX_sub (fun p c hf=>objX_sub b 9 _ _ p c hf) _ _ _ _ h]
theorem chkL_of {d:Nat}:∀ {l:List Node} {c:Nat},(∀ n,n∈l→(qGm d n 0).1=0)→(qDz d l c).1=0
 | [],_,_=>rfl
 | a::l,c,h=>by
  rw [qDz,if_pos (by rw [chkN_any d a c 0];exact h a (by simp))]
  exact chkL_of fun n hn=>h n (by simp [hn])
theorem tagX_inv {b:List UInt8} {e p:Nat} (h:(qJs b e p).2.1=0):p < (qJs b e p).2.2∧qCs (qJs b e p).1=true:=by
 unfold qJs at h ⊢
 split at h
 ·exact absurd h (by simp)
 ·rename_i h1
  rw [if_neg h1]
  split at h
  ·rename_i h2
   rw [if_pos h2]
   split at h
   ·exact absurd h (by simp)
   ·rename_i h3
    rw [if_neg h3]
    split at h
    ·rename_i h4
     rw [if_pos h4]
     exact ⟨by simp only;omega,h4⟩
    ·exact absurd h (by simp)
  ·rename_i h2
   rw [if_neg h2]
   split at h
   ·rename_i h4
    rw [if_pos h4]
    exact ⟨by simp only;omega,h4⟩
   ·exact absurd h (by simp)
end Tdoc
