/- Part 8 of the proof: the texts E11 E12 E13 E14 E15 E16 E17 E18 E19 E20 E21 E22 E23 E24 E25 G1 G2 G3 Y4 Y7 Z1 Y2 Z2 ZM Y3 Z3 ZN ZC0 Z4 Z5 Z6 ZC ZO ZD. -/
import Derived.Test.YtelocejblpajcaaGreatDoorBG7
set_option linter.unusedVariables false
set_option linter.unusedSimpArgs false
namespace Tdoc
open Go Go.Proofs
set_option maxHeartbeats 4000000 in
set_option maxRecDepth 100000 in
theorem qUq (l:List Node) (hl:l.length≤1000000000) (hf:qJx l) (hsz:qAt l≤100000000) :
  Spec Tryz.prog 130 [.d (.sl 3 (encNs l))] [] (fun r h'=>r=.tup [.d (.sl 1 (qAl (qBh l).1)),.d (.int .i64 (qBh l).2)]∧h'=[]):=by
 have hchk:=checkR_spec (qAt l) 1 l (Nat.le_refl _) hf hl (by omega)
 have htag:=chkL_tags 1 l 0
 have hcnt:=vAv 256 (by omega) (qAt l) l (Nat.le_refl _) (by omega) hl hf
 rw [encodeR_eq]
 generalize (qDt 1 l 0).1=e at hchk htag
 generalize qRk 256 l 0=c at hcnt
 refine qAb hT Tryz.func130 rfl rfl rfl rfl ?_
 intro E hE
 refine ww ?_
 refine qAd (qBn rfl rfl hchk rfl rfl rfl) rfl ?_
 refine ww ?_
 refine qAa rfl (fun h1=>?_) (fun h1=>?_)
 ·have h1':e≠0:=by simpa using h1
  rw [if_pos h1']
  refine ww ?_
  exact qAh (r:=.tup [.d (.sl 1 (qAl [])),.d (.int .i64 e)]) rfl (AV.le.tup ⟨AV.le.nils,.refl _,trivial⟩) rfl rfl rfl rfl ⟨rfl,rfl⟩
 ·have h1':¬ e≠0:=by simpa using h1
  rw [if_neg h1']
  refine ww ?_
  refine qAd (qBn rfl rfl hcnt rfl rfl rfl) rfl ?_
  refine ww ?_
  refine qAa rfl (fun h2=>?_) (fun h2=>?_)
  ·have h2':c > 256:=by simp at h2;omega
   rw [if_pos h2']
   refine ww ?_
   exact qAh (r:=.tup [.d (.sl 1 (qAl [])),.d (.int .i64 2)]) rfl (AV.le.tup ⟨AV.le.nils,.refl _,trivial⟩) rfl rfl rfl rfl ⟨rfl,rfl⟩
  ·have h2':¬ c > 256:=by simp at h2;omega
   rw [if_neg h2']
   have hwr:=vFi (qAt l) l (Nat.le_refl _) (htag (by omega)) hl hf
   have hwl:=encB_length (qMs l [])
   generalize qMs l []=s at hwr hwl
   refine ww ?_
   refine qAd (qBn rfl rfl hwr rfl rfl rfl) rfl ?_
   refine ww ?_
   refine qAa rfl (fun h3=>?_) (fun h3=>?_)
   ·have h3':s.length > 4096:=by rw [hwl] at h3;simp at h3;omega
    rw [if_pos h3']
    refine ww ?_
    exact qAh (r:=.tup [.d (.sl 1 (qAl [])),.d (.int .i64 2)]) rfl (AV.le.tup ⟨AV.le.nils,.refl _,trivial⟩) rfl rfl rfl rfl ⟨rfl,rfl⟩
   ·have h3':¬ s.length > 4096:=by rw [hwl] at h3;simp at h3;omega
    rw [if_neg h3']
    refine ww ?_
    exact qAh rfl (.refl _) rfl rfl rfl rfl ⟨rfl,rfl⟩
theorem lenB_le (n:Nat):(qPt n).length≤9:=by
 have:(digs 8 n).length≤8:=by unfold digs;rw [List.length_reverse];exact digL_length 8 n
 unfold qPt
 split
 ·simp
 ·rw [List.length_cons];omega
theorem wrL_one_le (t:Int) (v:List UInt8) (l:List Node):(wrL [.mk t v l]).length≤11+v.length+(wrL l).length:=by
 have h1:=lenB_le (wrL l).length
 have h2:=lenB_le v.length
 have h3:=tagB_le t
 simp only [wrL,wrN,List.length_append,List.length_nil]
 split <;> omega
def qEa (n:Int) (l:List Node):List UInt8×Int:=if (qMp n).2≠0 then ([],(qMp n).2) else qBh [.mk (qMp n).1 [] l]
theorem tagR_range (n:Int):0≤(qMp n).1∧(qMp n).1≤255:=by
 unfold qMp
 split
 ·simp
 ·rename_i h
  obtain ⟨x,hx,_,_⟩:=tagD_at (i:=(n-1).toNat) (by omega)
  rw [hx]
  have hm:=List.mem_of_getElem? hx
  have:∀ y,y∈tagTab→0≤y∧y≤255:=by decide
  exact this x hm
set_option maxHeartbeats 4000000 in
set_option maxRecDepth 100000 in
theorem qGm (n:Int) (hn : -9223372036854775808≤n∧n≤9223372036854775807) (l:List Node) (hl:l.length≤1000000000) (hf:qJx l) (hsz:qAt l≤10000000) (hw:(wrL l).length≤100000000) :
  Spec Tryz.prog 174 [.d (.int .i64 n),.d (.sl 3 (encNs l))] [] (fun r h'=>r=.tup [.d (.sl 1 (qAl (qEa n l).1)),.d (.int .i64 (qEa n l).2)]∧h'=[]):=by
 have htag:=vGu n hn
 have hrg:=tagR_range n
 unfold qEa
 generalize qMp n=q at htag hrg
 obtain ⟨t,e⟩:=q
 simp only at htag hrg ⊢
 have henc:=qFo [.mk t [] l] (by simp) ⟨⟨by omega,by simp,hl,hf⟩,trivial⟩ (by simp only [qAt,qCf];omega) (by have:=wrL_one_le t [] l;simp only [List.length_nil] at this;omega)
 generalize qBh [.mk t [] l]=en at henc
 obtain ⟨b,f⟩:=en
 refine qAb hT Tryz.func174 rfl rfl rfl rfl ?_
 intro E hE
 refine ww ?_
 refine qAd (qBn rfl rfl htag rfl rfl rfl) rfl ?_
 refine ww ?_
 refine qAa rfl (fun h1=>?_) (fun h1=>?_)
 ·have h1':e≠0:=by simpa using h1
  rw [if_pos h1']
  refine ww ?_
  exact qAh (r:=.tup [.d (.sl 1 (qAl [])),.d (.int .i64 e)]) rfl (AV.le.tup ⟨AV.le.nils,.refl _,trivial⟩) rfl rfl rfl rfl ⟨rfl,rfl⟩
 ·have h1':¬ e≠0:=by simpa using h1
  rw [if_neg h1']
  refine ww ?_
  refine qAd (qKa rfl rfl henc rfl (by exact ⟨AV.le.dat,trivial⟩) rfl rfl) rfl ?_
  refine ww ?_
  exact qAh rfl (.refl _) rfl rfl rfl rfl ⟨rfl,rfl⟩
end Tdoc
namespace Tdoc
open Go Go.Proofs
def rdr (b:List UInt8) (st:Bool) (p c:Nat):List AV:=[.d (.sl 1 (qAl b)),.d (.int .i64 (p:Int)),.d (.bool st),.d (.int .i64 (c:Int))]
def qAq (b:List UInt8) (i:Nat):Nat:=(b.getD i 0).toNat
theorem byteAt_lt (b:List UInt8) (i:Nat):qAq b i < 256:=by unfold qAq;exact UInt8.toNat_lt _
theorem encB_byte {b:List UInt8} {i:Nat} (h:i < b.length):(qAl b)[i]?=some [.int .u8 (qAq b i:Int)]:=by
 rw [encB_at h];unfold qAq;rw [List.getD_eq_getElem?_getD,List.getElem?_eq_getElem h];rfl
theorem vKr {a x:Nat} (ha:a < 4294967296) (hx:x < 256) :
  IntKind.i64.wrap ((BitVec.ofInt IntKind.i64.bits (IntKind.i64.wrap ((a:Int)*2 ^ min (Int.toNat 8) IntKind.i64.bits)) ||| BitVec.ofInt IntKind.i64.bits (x:Int)).toNat:Int)=((a*256+x:Nat):Int):=by
 have h1:IntKind.i64.wrap ((a:Int)*2 ^ min (Int.toNat 8) IntKind.i64.bits)=((a*256:Nat):Int):=by
  show IntKind.i64.wrap ((a:Int)*256)=_
  rw [qAf (by omega)];omega
 rw [h1,vHq (by omega) (by omega)]
 have:=vBr a x 8 (by omega)
 rw [show (2:Nat) ^ 8=256 from rfl] at this
 rw [this]
def qJr (b:List UInt8) (e p:Nat):Int×Int×Nat :=
 if e≤p then (0,6,p)
 else if qAq b p % 32=31 then
  if e≤p+1 then (0,6,p+1)
  else if qCs ((qAq b p*256+qAq b (p+1):Nat):Int) then (((qAq b p*256+qAq b (p+1):Nat):Int),0,p+2) else (0,4,p+2)
 else if qCs (qAq b p:Int) then ((qAq b p:Int),0,p+1) else (0,4,p+1)
set_option maxHeartbeats 4000000 in
set_option maxRecDepth 100000 in
theorem vFc (b:List UInt8) (st:Bool) (e p c:Nat) (hb:b.length≤1000000) (he:e≤b.length) (hp:p≤e) :
  Spec Tryz.prog 382 [.ptr 0 0,.d (.int .i64 (e:Int))] [.row (rdr b st p c)] (fun r h'=>r=.tup [.d (.int .i64 (qJr b e p).1),.d (.int .i64 (qJr b e p).2.1)]∧h'=[.row (rdr b st (qJr b e p).2.2 c)]):=by
 have hx:=byteAt_lt b p
 have hx1:=byteAt_lt b (p+1)
 have hw0:IntKind.i64.wrap (qAq b p:Int)=(qAq b p:Int):=qAf (by omega)
 have hw1:IntKind.i64.wrap (qAq b (p+1):Int)=(qAq b (p+1):Int):=qAf (by omega)
 have hwr:IntKind.i64.wrap ((p:Int)+1)=((p+1:Nat):Int):=by rw [qAf (by omega)];simp
 have hwr2:IntKind.i64.wrap (IntKind.i64.wrap ((p:Int)+1)+1)=((p+2:Nat):Int):=by rw [hwr,qAf (by omega)];omega
 have hlong:Spec Tryz.prog 385 [.d (.int .i64 (IntKind.i64.wrap (qAq b p:Int)))] [] (fun r h'=>r=.d (.bool ((qAq b p:Int) % 32 == 31))∧h'=[]):=by rw [hw0];exact qNp _ (by omega) (by omega)
 refine qAb hT Tryz.func382 rfl rfl rfl rfl ?_
 intro E hE
 unfold qJr
 refine ww ?_
 refine qAa rfl (fun h1=>?_) (fun h1=>?_)
 ·have h1':e≤p:=by simpa using h1
  rw [if_pos h1']
  refine ww ?_
  exact qAh rfl (.refl _) rfl rfl rfl rfl ⟨rfl,rfl⟩
 ·have h1':¬ e≤p:=by simpa using h1
  have hel:(qAl b)[((p:Int)).toNat]?=some [.int .u8 (qAq b p:Int)]:=encB_byte (by omega)
  rw [if_neg h1']
  refine ww ?_
  refine qAx (qAc (indexAddr_ok hT rfl rfl rfl rfl (by omega) hel)) rfl rfl ?_
  refine ww ?_
  refine qAd (qBn rfl rfl hlong rfl rfl rfl) rfl ?_
  refine ww ?_
  refine qAa rfl (fun h2=>?_) (fun h2=>?_)
  ·have h2':qAq b p % 32=31:=by simp at h2;omega
   rw [if_pos h2']
   refine ww ?_
   refine qAa rfl (fun h3=>?_) (fun h3=>?_)
   ·have h3':e≤p+1:=by rw [hwr] at h3;simp at h3;omega
    rw [if_pos h3']
    refine ww ?_
    exact qAh rfl (.refl _) rfl rfl rfl rfl ⟨rfl,by rw [hwr];rfl⟩
   ·have h3':¬ e≤p+1:=by rw [hwr] at h3;simp at h3;omega
    have hel1:(qAl b)[(IntKind.i64.wrap ((p:Int)+1)).toNat]?=some [.int .u8 (qAq b (p+1):Int)]:=by rw [hwr];exact encB_byte (by omega)
    rw [if_neg h3']
    refine ww ?_
    refine qAx (qAc (indexAddr_ok hT rfl rfl rfl rfl (by rw [hwr];omega) hel1)) rfl rfl ?_
    refine ww ?_
    have hj:IntKind.i64.wrap ((BitVec.ofInt IntKind.i64.bits (IntKind.i64.wrap (IntKind.i64.wrap (qAq b p:Int)*2 ^ min (Int.toNat 8) IntKind.i64.bits)) ||| BitVec.ofInt IntKind.i64.bits (IntKind.i64.wrap (qAq b (p+1):Int))).toNat:Int)=((qAq b p*256+qAq b (p+1):Nat):Int):=by rw [hw0,hw1];exact vKr (by omega) hx1
    generalize hvv:IntKind.i64.wrap ((BitVec.ofInt IntKind.i64.bits (IntKind.i64.wrap (IntKind.i64.wrap (qAq b p:Int)*2 ^ min (Int.toNat 8) IntKind.i64.bits)) ||| BitVec.ofInt IntKind.i64.bits (IntKind.i64.wrap (qAq b (p+1):Int))).toNat:Int)=vv at hj
    have hvalid:Spec Tryz.prog 345 [.d (.int .i64 vv)] [] (fun r h'=>r=.d (.bool (qCs vv))∧h'=[]):=qIv vv (by omega)
    rw [← hj]
    generalize qCs vv=ok at hvalid
    refine qAd (qBn rfl rfl hvalid rfl rfl rfl) rfl ?_
    refine ww ?_
    refine qAa rfl (fun h4=>?_) (fun h4=>?_)
    ·have h4':¬ ok=true:=by simpa using h4
     rw [if_neg h4']
     refine ww ?_
     exact qAh rfl (.refl _) rfl rfl rfl rfl ⟨rfl,by rw [hwr2];rfl⟩
    ·have h4':ok=true:=by simpa using h4
     rw [if_pos h4']
     refine ww ?_
     exact qAh rfl (.refl _) rfl rfl rfl rfl ⟨rfl,by rw [hwr2];rfl⟩
  ·have h2':¬ qAq b p % 32=31:=by simp at h2;omega
   have hvalid:Spec Tryz.prog 345 [.d (.int .i64 (IntKind.i64.wrap (qAq b p:Int)))] [] (fun r h'=>r=.d (.bool (qCs (qAq b p:Int)))∧h'=[]):=by rw [hw0];exact qIv _ (by omega)
   rw [if_neg h2']
   generalize qCs (qAq b p:Int)=ok at hvalid
   refine ww ?_
   refine qAd (qBn rfl rfl hvalid rfl rfl rfl) rfl ?_
   refine ww ?_
   refine qAa rfl (fun h4=>?_) (fun h4=>?_)
   ·have h4':¬ ok=true:=by simpa using h4
    rw [if_neg h4']
    refine ww ?_
    exact qAh rfl (.refl _) rfl rfl rfl rfl ⟨rfl,by rw [hwr];rfl⟩
   ·have h4':ok=true:=by simpa using h4
    rw [if_pos h4']
    refine ww ?_
    exact qAh (r:=.tup [.d (.int .i64 (qAq b p:Int)),.d (.int .i64 0)]) rfl (AV.le.tup ⟨AV.le.eq (congrArg (fun z=>AV.d (.int .i64 z)) hw0),.refl _,trivial⟩) rfl rfl rfl rfl ⟨rfl,by rw [hwr];rfl⟩
end Tdoc
namespace Tdoc
open Go Go.Proofs
def qWc (b:List UInt8):Nat→Nat→Nat→Nat
 | _,0,a=>a
 | p,k+1,a=>qWc b (p+1) k (a*256+qAq b p)
theorem numB_lt (b:List UInt8):∀ (k p a m:Nat),a < 256 ^ m→qWc b p k a < 256 ^ (m+k)
 | 0,p,a,m,h=>h
 | k+1,p,a,m,h=>by
  have hx:=byteAt_lt b p
  have h1:a*256+qAq b p < 256 ^ (m+1):=by rw [Nat.pow_succ];omega
  have h2:=numB_lt b k (p+1) _ (m+1) h1
  rw [qWc,show m+(k+1)=m+1+k by omega];exact h2
def qOu (b:List UInt8) (e:Nat) (op st:Bool) (p:Nat):Int×Int×Nat :=
 if e≤p then (0,6,p)
 else if qAq b p < 128 then ((qAq b p:Int),0,p+1)
 else if 132 < qAq b p∨(qAq b p=128∧op=false) then (0,5,p+1)
 else if qAq b p=128 then (-1,0,p+1)
 else if e < p+1+qAq b p % 16 then (0,6,p+1)
 else if st=true∧(qWc b (p+1) (qAq b p % 16) 0 < 128∨qWc b (p+1) (qAq b p % 16) 0 / 2 ^ (8*(qAq b p % 16-1))=0) then (0,5,p+1+qAq b p % 16)
 else ((qWc b (p+1) (qAq b p % 16) 0:Int),0,p+1+qAq b p % 16)
set_option maxHeartbeats 4000000 in
set_option maxRecDepth 100000 in
theorem vFw (b:List UInt8) (op st:Bool) (e p c:Nat) (hb:b.length≤1000000) (he:e≤b.length) (hp:p≤e) :
  Spec Tryz.prog 383 [.ptr 0 0,.d (.int .i64 (e:Int)),.d (.bool op)] [.row (rdr b st p c)] (fun r h'=>r=.tup [.d (.int .i64 (qOu b e op st p).1),.d (.int .i64 (qOu b e op st p).2.1)]∧h'=[.row (rdr b st (qOu b e op st p).2.2 c)]):=by
 have hx:=byteAt_lt b p
 have hw0:IntKind.i64.wrap (qAq b p:Int)=(qAq b p:Int):=qAf (by omega)
 have hwr:IntKind.i64.wrap ((p:Int)+1)=((p+1:Nat):Int):=by rw [qAf (by omega)];simp
 have hand:IntKind.i64.wrap ((BitVec.ofInt IntKind.i64.bits (IntKind.i64.wrap (qAq b p:Int)) &&& BitVec.ofInt IntKind.i64.bits (15:Int)).toNat:Int)=((qAq b p % 16:Nat):Int):=by
  rw [hw0]
  have:=qRx (a:=qAq b p) (b:=15) (by omega) (by omega)
  rw [qQy (qAq b p) 4] at this
  exact this
 refine qAb hT Tryz.func383 rfl rfl rfl rfl ?_
 intro E hE
 unfold qOu
 refine ww ?_
 refine qAa rfl (fun h1=>?_) (fun h1=>?_)
 ·have h1':e≤p:=by simpa using h1
  rw [if_pos h1']
  refine ww ?_
  exact qAh rfl (.refl _) rfl rfl rfl rfl ⟨rfl,rfl⟩
 ·have h1':¬ e≤p:=by simpa using h1
  have hel:(qAl b)[((p:Int)).toNat]?=some [.int .u8 (qAq b p:Int)]:=encB_byte (by omega)
  rw [if_neg h1']
  refine ww ?_
  refine qAx (qAc (indexAddr_ok hT rfl rfl rfl rfl (by omega) hel)) rfl rfl ?_
  refine ww ?_
  refine qAa rfl (fun h2=>?_) (fun h2=>?_)
  ·have h2':qAq b p < 128:=by rw [hw0] at h2;simp at h2;omega
   rw [if_pos h2']
   refine ww ?_
   exact qAh (r:=.tup [.d (.int .i64 (qAq b p:Int)),.d (.int .i64 0)]) rfl (AV.le.tup ⟨AV.le.eq (congrArg (fun z=>AV.d (.int .i64 z)) hw0),.refl _,trivial⟩) rfl rfl rfl rfl ⟨rfl,by rw [hwr];rfl⟩
  ·have h2':¬ qAq b p < 128:=by rw [hw0] at h2;simp at h2;omega
   rw [if_neg h2']
   refine ww ?_
   refine qAa rfl (fun h3=>?_) (fun h3=>?_)
   ·have h3':132 < qAq b p:=by rw [hw0] at h3;simp at h3;omega
    rw [if_pos (.inl h3')]
    refine ww ?_
    refine qAa rfl (fun h4=>?_) (fun h4=>?_)
    ·refine ww ?_
     exact qAh rfl (.refl _) rfl rfl rfl rfl ⟨rfl,by rw [hwr];rfl⟩
    ·exact absurd (h3.symm.trans h4) (by simp)
   ·have h3':¬ 132 < qAq b p:=by rw [hw0] at h3;simp at h3;omega
    refine ww ?_
    refine qAa rfl (fun h4=>?_) (fun h4=>?_)
    ·have h4':qAq b p=128∧op=false:=by rw [hw0] at h4;simp at h4;exact ⟨by omega,h4.2⟩
     rw [if_pos (.inr h4')]
     refine ww ?_
     exact qAh rfl (.refl _) rfl rfl rfl rfl ⟨rfl,by rw [hwr];rfl⟩
    ·have h4':¬ (qAq b p=128∧op=false):=by rintro ⟨ha,hb'⟩;rw [hw0,ha,hb'] at h4;simp at h4
     rw [if_neg (fun hh=>hh.elim h3' h4')]
     refine ww ?_
     refine qAa rfl (fun h5=>?_) (fun h5=>?_)
     ·have h5':qAq b p=128:=by rw [hw0] at h5;simp at h5;omega
      rw [if_pos h5']
      refine ww ?_
      exact qAh rfl (.refl _) rfl rfl rfl rfl ⟨rfl,by rw [hwr];rfl⟩
     ·have h5':¬ qAq b p=128:=by rw [hw0] at h5;simp at h5;omega
      rw [if_neg h5']
      have hk1:1≤qAq b p % 16∧qAq b p % 16≤4:=by omega
      generalize hks:qAq b p % 16=ks at hand hk1
      refine ww ?_
      rw [hand]
      have hws:IntKind.i64.wrap ((e:Int)-IntKind.i64.wrap ((p:Int)+1))=(e:Int)-((p+1:Nat):Int):=by rw [hwr,qAf (by omega)]
      refine qAa rfl (fun h6=>?_) (fun h6=>?_)
      ·have h6':e < p+1+ks:=by rw [hws] at h6;simp at h6;omega
       rw [if_pos h6']
       refine ww ?_
       exact qAh rfl (.refl _) rfl rfl rfl rfl ⟨rfl,by rw [hwr];rfl⟩
      ·have h6':¬ e < p+1+ks:=by rw [hws] at h6;simp at h6;omega
       rw [if_neg h6']
       have hfl:=numB_lt b ks (p+1) 0 0 (by simp)
       have hpw:256 ^ (0+ks)≤256 ^ 4:=Nat.pow_le_pow_right (by omega) (by omega)
       generalize hfin:qWc b (p+1) ks 0=fin at hfl
       refine ww ?_
       refine qAp (ι:=Nat×Nat) (fun x=>[(0,.ptr 0 0),(9,.d (.int .i64 (ks:Int))),(10,.d (.int .i64 (x.2:Int))),(61,.d (.int .i64 (ks:Int))),(62,.d (.int .i64 (x.1:Int)))]) (fun x=>[.row (rdr b st (p+1+x.1) c)])
        (fun x=>x.1≤ks∧qWc b (p+1+x.1) (ks-x.1) x.2=fin∧x.2 < 256 ^ x.1) (fun x=>ks-x.1) (0,0) ⟨by omega,hfin,by simp⟩ ⟨.refl _,.refl _,.refl _,.refl _,.refl _,trivial⟩ ⟨⟨.refl _,AV.le.eq (by rw [hwr];rfl),.refl _,.refl _,trivial⟩,trivial⟩ ?_
       rintro ⟨i,acc⟩ ⟨hi,hg,hac⟩
       simp only at hi hg hac ⊢
       have hwi:IntKind.i64.wrap ((i:Int)+1)=((i+1:Nat):Int):=by rw [qAf (by omega)];simp
       refine ww ?_
       refine qAa rfl (fun h7=>?_) (fun h7=>?_)
       ·have h7':i < ks:=by simpa using h7
        have hxi:=byteAt_lt b (p+1+i)
        have hwp:IntKind.i64.wrap (((p+1+i:Nat):Int)+1)=((p+1+(i+1):Nat):Int):=by rw [qAf (by omega)];omega
        have hwx:IntKind.i64.wrap (qAq b (p+1+i):Int)=(qAq b (p+1+i):Int):=qAf (by omega)
        have hel1:(qAl b)[((p+1+i:Nat):Int).toNat]?=some [.int .u8 (qAq b (p+1+i):Int)]:=by rw [Int.toNat_natCast];exact encB_byte (by omega)
        have hp3:256 ^ i≤256 ^ 3:=Nat.pow_le_pow_right (by omega) (by omega)
        have hj:IntKind.i64.wrap ((BitVec.ofInt IntKind.i64.bits (IntKind.i64.wrap ((acc:Int)*2 ^ min (Int.toNat 8) IntKind.i64.bits)) ||| BitVec.ofInt IntKind.i64.bits (IntKind.i64.wrap (qAq b (p+1+i):Int))).toNat:Int)=((acc*256+qAq b (p+1+i):Nat):Int):=by rw [hwx];exact vKr (by omega) hxi
        rw [show ks-i=(ks-(i+1))+1 by omega,qWc] at hg
        refine ww ?_
        refine qAx (qAc (indexAddr_ok hT rfl rfl rfl rfl (by omega) hel1)) rfl rfl ?_
        refine ww ?_
        exact ⟨(i+1,acc*256+qAq b (p+1+i)),⟨by simp only;omega,hg,by simp only;rw [Nat.pow_succ];omega⟩,by simp only;omega,⟨.refl _,.refl _,AV.le.eq (congrArg (fun z=>AV.d (.int .i64 z)) hj),.refl _,AV.le.eq (congrArg (fun z=>AV.d (.int .i64 z)) hwi),trivial⟩,⟨⟨.refl _,AV.le.eq (congrArg (fun z=>AV.d (.int .i64 z)) hwp),.refl _,.refl _,trivial⟩,trivial⟩⟩
       ·have h7':i=ks:=by simp at h7;omega
        subst h7'
        rw [Nat.sub_self,qWc] at hg
        subst hg
        refine ww ?_
        have hws8:IntKind.i64.wrap (8*IntKind.i64.wrap ((i:Int)-1))=((8*(i-1):Nat):Int):=by rw [qAf (n:=(i:Int)-1) (by omega),qAf (by omega)];omega
        have hsh:Int.fdiv (acc:Int) (2 ^ min (IntKind.i64.wrap (8*IntKind.i64.wrap ((i:Int)-1))).toNat IntKind.i64.bits)=((acc / 2 ^ (8*(i-1)):Nat):Int):=by
         rw [hws8,Int.toNat_natCast,show min (8*(i-1)) IntKind.i64.bits=8*(i-1) from Nat.min_eq_left (by show _≤64;omega)]
         exact qDq acc _
        refine qUx hT rfl rfl rfl rfl (fun hg=>⟨⟨hg,hg,True.intro⟩,by rw [hws8];omega⟩) ?_
        refine ww ?_
        refine qAa rfl (fun h8=>?_) (fun h8=>?_)
        ·have h8':st=true∧(acc < 128∨acc / 2 ^ (8*(i-1))=0):=by
          rw [hsh] at h8
          simp only [Bool.and_eq_true,Bool.or_eq_true,decide_eq_true_eq,beq_iff_eq] at h8
          exact ⟨h8.1,h8.2.imp (fun h=>by omega) (fun h=>by omega)⟩
         rw [if_pos h8']
         refine ww ?_
         exact qAh rfl (.refl _) rfl rfl rfl rfl ⟨rfl,rfl⟩
        ·have h8':¬ (st=true∧(acc < 128∨acc / 2 ^ (8*(i-1))=0)):=by
          rintro ⟨g1,g2⟩
          have:(st&&(decide ((acc:Int) < 128)||(Int.fdiv (acc:Int) (2 ^ min (IntKind.i64.wrap (8*IntKind.i64.wrap ((i:Int)-1))).toNat IntKind.i64.bits) == 0)))=true:=by
           rw [hsh]
           simp only [Bool.and_eq_true,Bool.or_eq_true,decide_eq_true_eq,beq_iff_eq]
           exact ⟨g1,g2.imp (fun h=>by omega) (fun h=>by omega)⟩
          exact absurd (this.symm.trans h8) (by simp)
         rw [if_neg h8']
         refine ww ?_
         exact qAh rfl (.refl _) rfl rfl rfl rfl ⟨rfl,rfl⟩
end Tdoc
set_option maxHeartbeats 8000000
set_option maxRecDepth 100000
namespace Tdoc
open Go Go.Proofs
abbrev Rd:=Nat→Nat→Node×Int×Nat×Nat
def qHy:Node→List AV
 | .mk t v k=>[.d (.int .i64 t),.d (.sl 1 (qAl v)),.d (.sl 3 (encNs k))]
def qEh (f:Rd) (e:Nat):Nat→Nat→Nat→List Node→List Node×Int×Nat×Nat
 | 0,p,c,out=>(out,0,p,c)
 | m+1,p,c,out=>if p < e then (if (f p c).2.1≠0 then ([],(f p c).2) else qEh f e m (f p c).2.2.1 (f p c).2.2.2 (out++[(f p c).1])) else (out,0,p,c)
def qHz (b:List UInt8) (f:Rd) (e:Nat):Nat→Nat→Nat→List Node→List Node×Int×Nat×Nat
 | 0,p,c,out=>([],6,p,c)
 | m+1,p,c,out=>if e≤p∨(qAq b p=0∧e≤p+1) then ([],6,p,c) else if qAq b p=0∧qAq b (p+1)=0 then (out,0,p+2,c)
  else (if (f p c).2.1≠0 then ([],(f p c).2) else qHz b f e m (f p c).2.2.1 (f p c).2.2.2 (out++[(f p c).1]))
def RdOk (f:Rd) (e:Nat):Prop:=∀ p c,p≤e→c≤256→p≤(f p c).2.2.1∧(f p c).2.2.1≤e∧(f p c).2.2.2≤257∧((f p c).2.1=0→p < (f p c).2.2.1∧(f p c).2.2.2≤256)
theorem loopX_ok {f:Rd} {e:Nat} (hf:RdOk f e):∀ (m p c:Nat) (out:List Node),p≤e→c≤256→p≤(qEh f e m p c out).2.2.1∧(qEh f e m p c out).2.2.1≤e∧(qEh f e m p c out).2.2.2≤257∧((qEh f e m p c out).2.1=0→(qEh f e m p c out).2.2.2≤256)
 | 0,p,c,out,hp,hc=>⟨Nat.le_refl _,hp,by show c≤257;omega,fun _=>hc⟩
 | m+1,p,c,out,hp,hc=>by
  have h:=hf p c hp hc
  rw [qEh]
  split
  ·split
   ·rename_i h2
    exact ⟨h.1,h.2.1,h.2.2.1,fun h0=>absurd h0 h2⟩
   ·rename_i h2
    have h3:=h.2.2.2 (by simpa using h2)
    have:=loopX_ok hf m _ (f p c).2.2.2 (out++[(f p c).1]) h.2.1 h3.2
    exact ⟨by omega,this.2⟩
  ·exact ⟨Nat.le_refl _,hp,by show c≤257;omega,fun _=>hc⟩
theorem kidsX_ok {b:List UInt8} {f:Rd} {e:Nat} (hf:RdOk f e):∀ (m p c:Nat) (out:List Node),p≤e→c≤256→p≤(qHz b f e m p c out).2.2.1∧(qHz b f e m p c out).2.2.1≤e∧(qHz b f e m p c out).2.2.2≤257∧((qHz b f e m p c out).2.1=0→(qHz b f e m p c out).2.2.2≤256)
 | 0,p,c,out,hp,hc=>⟨Nat.le_refl _,hp,by show c≤257;omega,fun _=>hc⟩
 | m+1,p,c,out,hp,hc=>by
  have h:=hf p c hp hc
  rw [qHz]
  split
  ·exact ⟨Nat.le_refl _,hp,by show c≤257;omega,fun _=>hc⟩
  ·rename_i h0
   split
   ·exact ⟨by show p≤p+2;omega,by show p+2≤e;omega,by show c≤257;omega,fun _=>hc⟩
   ·split
    ·rename_i h2
     exact ⟨h.1,h.2.1,h.2.2.1,fun h0=>absurd h0 h2⟩
    ·rename_i h2
     have h3:=h.2.2.2 (by simpa using h2)
     have:=kidsX_ok (b:=b) hf m _ (f p c).2.2.2 (out++[(f p c).1]) h.2.1 h3.2
     exact ⟨by omega,this.2⟩
set_option maxRecDepth 100000 in
theorem qOn (es:List (List Dat)) (hl:es.length≤2000000) :
  Spec Tryz.prog 66 [.d (.sl 1 es)] [] (fun r h'=>r=.d (.sl 1 es)∧h'=[]):=by
 refine qAb hT Tryz.func66 rfl rfl rfl rfl ?_
 intro E hE
 refine ww ?_
 refine qCr (eqNil_ok hT (fun _=>rfl) rfl rfl rfl) rfl ?_
 rintro v h' ⟨rfl,b,rfl,hb⟩
 refine ww ?_
 refine qAa rfl (fun h1=>?_) (fun h1=>?_)
 ·obtain rfl:=hb h1
  refine ww ?_
  exact qAh rfl AV.le.nils rfl rfl rfl rfl ⟨rfl,rfl⟩
 ·refine ww ?_
  refine qAd (qCh (es:=[]) hT rfl rfl rfl (.inl rfl) rfl (by show (([]:List (List Dat)).length+es.length)*(1+1)≤140737488355328;simp;omega)) rfl ?_
  refine ww ?_
  exact qAh rfl (.refl _) rfl rfl rfl rfl ⟨rfl,rfl⟩
def ObjS (b:List UInt8) (st:Bool) (f:Rd) (e d:Nat):Prop:=∀ p c,p≤e→c≤256→Spec Tryz.prog 342 [.ptr 0 0,.d (.int .i64 (e:Int)),.d (.int .i64 (d:Int))] [.row (rdr b st p c)]
 (fun r h'=>r=.tup [.agg (qHy (f p c).1),.d (.int .i64 (f p c).2.1)]∧h'=[.row (rdr b st (f p c).2.2.1 (f p c).2.2.2)])
theorem qLv (b:List UInt8) (st:Bool) (f:Rd) (e d:Nat) (hb:b.length≤1000000) (he:e≤b.length) (hd:d≤100) (hf:RdOk f e) (H:ObjS b st f e d) (p c m:Nat) (hp:p≤e) (hc:c≤256) (hm:e < p+m) :
  Spec Tryz.prog 274 [.ptr 0 0,.d (.int .i64 (e:Int)),.d (.int .i64 (d:Int))] [.row (rdr b st p c)]
   (fun r h'=>r=.tup [.d (.sl 3 (encNs (qEh f e m p c []).1)),.d (.int .i64 (qEh f e m p c []).2.1)]∧h'=[.row (rdr b st (qEh f e m p c []).2.2.1 (qEh f e m p c []).2.2.2)]):=by
 refine qAb hT Tryz.func274 rfl rfl rfl rfl ?_
 intro E hE
 generalize hfin:qEh f e m p c []=fin
 refine qAj ?_
 refine qAk (qAg ?_)
 refine wws ?_
 refine qAk (qAg ?_)
 refine wws ?_
 refine qAz 8 3 1 (es:=[]) (.inr ⟨rfl,rfl⟩) rfl ?_
 refine ww ?_
 refine qBt (ι:=Nat×Nat×Nat×List Node) (fun x=>[(0,.ptr 0 0),(1,.d (.int .i64 (e:Int))),(2,.d (.int .i64 (d:Int))),(8,.sl 3 (encNs x.2.2.2) (.right 1))]) (fun x=>[.row (rdr b st x.1 x.2.1),.right 3 (encNs x.2.2.2).length])
  (fun x=>x.1≤e∧x.2.1≤256∧e < x.1+x.2.2.1∧x.2.2.2.length≤x.1∧qEh f e x.2.2.1 x.1 x.2.1 x.2.2.2=fin) (fun x=>e-x.1) (p,c,m,[]) ⟨hp,hc,hm,by simp,hfin⟩ ⟨.refl _,.refl _,.refl _,.refl _,trivial⟩ ⟨.refl _,.refl _,trivial⟩ ?_
 rintro ⟨p,c,m,out⟩ ⟨hp,hc,hm,ho,hg⟩
 simp only at hp hc hm ho hg ⊢
 have hol:=encNs_length out
 refine ww ?_
 refine qAa rfl (fun h1=>?_) (fun h1=>?_)
 ·have h1':p < e:=by simpa using h1
  obtain ⟨m,rfl⟩:∃ m',m=m'+1:=⟨m-1,by omega⟩
  have hob:=H p c hp hc
  have hok:=hf p c hp hc
  rw [qEh,if_pos h1'] at hg
  generalize f p c=q at hob hok hg
  obtain ⟨⟨t,v,k⟩,er,p',c'⟩:=q
  simp only [qHy] at hob hok hg
  refine ww ?_
  refine qAd (qFt rfl rfl hob [0] (by decide) rfl rfl rfl rfl rfl rfl rfl) rfl ?_
  refine ww ?_
  refine qAa rfl (fun h2=>?_) (fun h2=>?_)
  ·have h2':er≠0:=by simpa using h2
   rw [if_pos h2'] at hg
   subst hg
   refine ww ?_
   exact qAh (r:=.tup [.d (.sl 3 (encNs [])),.d (.int .i64 er)]) rfl (AV.le.tup ⟨AV.le.nils,.refl _,trivial⟩) rfl rfl rfl rfl ⟨rfl,rfl⟩
  ·have h2':¬ er≠0:=by simpa using h2
   have hok2:=hok.2.2.2 (by simpa using h2)
   rw [if_neg h2'] at hg
   refine ww ?_
   refine qAd (qAi (i:=1) hT rfl rfl rfl rfl rfl rfl (by show ((encNs out).length+1)*(56+1)≤_;omega)) rfl ?_
   refine ww ?_
   have hres:encNs (out++[.mk t v k])=encNs out++[qHv (.mk t v k)]:=by rw [encNs_append];rfl
   exact ⟨(p',c',m,out++[.mk t v k]),[_],⟨hok.2.1,hok2.2,by simp only;omega,by simp only [List.length_append,List.length_singleton];omega,hg⟩,by simp only;omega,⟨.refl _,.refl _,.refl _,AV.le.eq (by rw [hres];rfl),trivial⟩,⟨ObLe.refl _,⟨rfl,by rw [hres];rfl⟩,ObLe.refl _,trivial⟩,Env.below_mono hE (by simp),rfl,rfl⟩
 ·have h1':¬ p < e:=by simpa using h1
  have hgf:(out,(0:Int),p,c)=fin:=by
   rw [← hg]
   cases m with
   | zero=>rfl
   | succ m=>rw [qEh,if_neg h1']
  subst hgf
  refine ww ?_
  exact qAh (r:=.tup [.d (.sl 3 (encNs out)),.d (.int .i64 0)]) rfl (AV.le.tup ⟨AV.le.dat,.refl _,trivial⟩) rfl rfl rfl rfl ⟨rfl,rfl⟩
end Tdoc
namespace Tdoc
open Go Go.Proofs
theorem vCo (b:List UInt8) (st:Bool) (f:Rd) (e d:Nat) (hb:b.length≤1000000) (he:e≤b.length) (hd:d≤100) (hf:RdOk f e) (H:ObjS b st f e d) (p c m:Nat) (hp:p≤e) (hc:c≤256) (hm:e < p+m) :
  Spec Tryz.prog 384 [.ptr 0 0,.d (.int .i64 (e:Int)),.d (.int .i64 (d:Int))] [.row (rdr b st p c)]
   (fun r h'=>r=.tup [.d (.sl 3 (encNs (qHz b f e m p c []).1)),.d (.int .i64 (qHz b f e m p c []).2.1)]∧h'=[.row (rdr b st (qHz b f e m p c []).2.2.1 (qHz b f e m p c []).2.2.2)]):=by
 refine qAb hT Tryz.func384 rfl rfl rfl rfl ?_
 intro E hE
 generalize hfin:qHz b f e m p c []=fin
 refine qAj ?_
 refine qAk (qAg ?_)
 refine wws ?_
 refine qAk (qAg ?_)
 refine wws ?_
 refine qAz 8 3 1 (es:=[]) (.inr ⟨rfl,rfl⟩) rfl ?_
 refine qEm ?_
 refine qBt (ι:=Nat×Nat×Nat×List Node) (fun x=>[(0,.ptr 0 0),(1,.d (.int .i64 (e:Int))),(2,.d (.int .i64 (d:Int))),(8,.sl 3 (encNs x.2.2.2) (.right 1))]) (fun x=>[.row (rdr b st x.1 x.2.1),.right 3 (encNs x.2.2.2).length])
  (fun x=>x.1≤e∧x.2.1≤256∧e < x.1+x.2.2.1∧x.2.2.2.length≤x.1∧qHz b f e x.2.2.1 x.1 x.2.1 x.2.2.2=fin) (fun x=>e-x.1) (p,c,m,[]) ⟨hp,hc,hm,by simp,hfin⟩ ⟨.refl _,.refl _,.refl _,.refl _,trivial⟩ ⟨.refl _,.refl _,trivial⟩ ?_
 rintro ⟨p,c,m,out⟩ ⟨hp,hc,hm,ho,hg⟩
 simp only at hp hc hm ho hg ⊢
 have hol:=encNs_length out
 obtain ⟨m,rfl⟩:∃ m',m=m'+1:=⟨m-1,by omega⟩
 rw [qHz] at hg
 have hwr:IntKind.i64.wrap ((p:Int)+1)=((p+1:Nat):Int):=by rw [qAf (by omega)];simp
 have hwr2:IntKind.i64.wrap ((p:Int)+2)=((p+2:Nat):Int):=by rw [qAf (by omega)];simp
 have hx:=byteAt_lt b p
 have hx1:=byteAt_lt b (p+1)
 refine ww ?_
 refine qLp rfl rfl rfl rfl (fun hg=>⟨⟨hg,hg,True.intro⟩,qAc (indexAddr_ok hT rfl rfl rfl rfl (by omega) (show (qAl b)[((p:Int)).toNat]?=some [.int .u8 (qAq b p:Int)] from encB_byte (by simp [gval] at hg;omega)))⟩) ?_
 refine ww ?_
 refine qAa rfl (fun h1=>?_) (fun h1=>?_)
 ·have h1':e≤p∨(qAq b p=0∧e≤p+1):=by
   rw [hwr] at h1
   simp only [Bool.or_eq_true,Bool.and_eq_true,decide_eq_true_eq,beq_iff_eq] at h1
   omega
  rw [if_pos h1'] at hg
  subst hg
  refine ww ?_
  exact qAh (r:=.tup [.d (.sl 3 (encNs [])),.d (.int .i64 6)]) rfl (AV.le.tup ⟨AV.le.nils,.refl _,trivial⟩) rfl rfl rfl rfl ⟨rfl,rfl⟩
 ·have h1':¬ (e≤p∨(qAq b p=0∧e≤p+1)):=by
   intro hh
   have:(decide ((p:Int)≥(e:Int))||(qAq b p:Int) == 0&&decide (IntKind.i64.wrap ((p:Int)+1)≥(e:Int)))=true:=by
    rw [hwr]
    simp only [Bool.or_eq_true,Bool.and_eq_true,decide_eq_true_eq,beq_iff_eq]
    omega
   exact absurd (this.symm.trans h1) (by simp)
  rw [if_neg h1'] at hg
  have hel:(qAl b)[((p:Int)).toNat]?=some [.int .u8 (qAq b p:Int)]:=encB_byte (by omega)
  refine ww ?_
  refine qAx (qAc (indexAddr_ok hT rfl rfl rfl rfl (by omega) hel)) rfl rfl ?_
  refine ww ?_
  refine qLp rfl rfl rfl rfl (fun hg=>⟨⟨hg,hg,True.intro⟩,qAc (indexAddr_ok hT rfl rfl rfl rfl (by rw [hwr];omega) (show (qAl b)[(IntKind.i64.wrap ((p:Int)+1)).toNat]?=some [.int .u8 (qAq b (p+1):Int)] from by rw [hwr];exact encB_byte (by simp [gval] at hg;omega)))⟩) ?_
  refine ww ?_
  refine qAa rfl (fun h2=>?_) (fun h2=>?_)
  ·have h2':qAq b p=0∧qAq b (p+1)=0:=by
    simp only [Bool.and_eq_true,beq_iff_eq] at h2
    omega
   rw [if_pos h2'] at hg
   subst hg
   refine ww ?_
   exact qAh (r:=.tup [.d (.sl 3 (encNs out)),.d (.int .i64 0)]) rfl (AV.le.tup ⟨AV.le.dat,.refl _,trivial⟩) rfl rfl rfl rfl ⟨rfl,by rw [hwr2];rfl⟩
  ·have h2':¬ (qAq b p=0∧qAq b (p+1)=0):=by
    intro hh
    have:((qAq b p:Int) == 0&&(qAq b (p+1):Int) == 0)=true:=by
     simp only [Bool.and_eq_true,beq_iff_eq]
     omega
    exact absurd (this.symm.trans h2) (by simp)
   rw [if_neg h2'] at hg
   have hob:=H p c hp hc
   have hok:=hf p c hp hc
   generalize f p c=q at hob hok hg
   obtain ⟨⟨t,v,k⟩,er,p',c'⟩:=q
   simp only [qHy] at hob hok hg
   refine ww ?_
   refine qAd (qFt rfl rfl hob [0] (by decide) rfl rfl rfl rfl rfl rfl rfl) rfl ?_
   refine ww ?_
   refine qAa rfl (fun h3=>?_) (fun h3=>?_)
   ·have h3':er≠0:=by simpa using h3
    rw [if_pos h3'] at hg
    subst hg
    refine ww ?_
    exact qAh (r:=.tup [.d (.sl 3 (encNs [])),.d (.int .i64 er)]) rfl (AV.le.tup ⟨AV.le.nils,.refl _,trivial⟩) rfl rfl rfl rfl ⟨rfl,rfl⟩
   ·have h3':¬ er≠0:=by simpa using h3
    have hok2:=hok.2.2.2 (by simpa using h3)
    rw [if_neg h3'] at hg
    refine ww ?_
    refine qAd (qAi (i:=1) hT rfl rfl rfl rfl rfl rfl (by show ((encNs out).length+1)*(56+1)≤_;omega)) rfl ?_
    refine ww ?_
    have hres:encNs (out++[.mk t v k])=encNs out++[qHv (.mk t v k)]:=by rw [encNs_append];rfl
    exact ⟨(p',c',m,out++[.mk t v k]),[_],⟨hok.2.1,hok2.2,by simp only;omega,by simp only [List.length_append,List.length_singleton];omega,hg⟩,by simp only;omega,⟨.refl _,.refl _,.refl _,AV.le.eq (by rw [hres];rfl),trivial⟩,⟨ObLe.refl _,⟨rfl,by rw [hres];rfl⟩,ObLe.refl _,trivial⟩,Env.below_mono hE (by simp),rfl,rfl⟩
end Tdoc
namespace Tdoc
open Go Go.Proofs
theorem tagX_ok (b:List UInt8) {e p:Nat} (hp:p≤e):p≤(qJr b e p).2.2∧(qJr b e p).2.2≤e∧((qJr b e p).2.1=0→p < (qJr b e p).2.2)∧0≤(qJr b e p).1∧(qJr b e p).1 < 65536:=by
 have hx:=byteAt_lt b p
 have hx1:=byteAt_lt b (p+1)
 unfold qJr
 split
 ·exact ⟨Nat.le_refl _,hp,fun h=>by simp at h,by simp,by simp⟩
 ·split
  ·split
   ·exact ⟨by show p≤p+1;omega,by show p+1≤e;omega,fun h=>by simp at h,by simp,by simp⟩
   ·split
    ·exact ⟨by show p≤p+2;omega,by show p+2≤e;omega,fun h=>by show p < p+2;omega,by show (0:Int)≤((_:Nat):Int);omega,by show ((_:Nat):Int) < 65536;omega⟩
    ·exact ⟨by show p≤p+2;omega,by show p+2≤e;omega,fun h=>by simp at h,by simp,by simp⟩
  ·split
   ·exact ⟨by show p≤p+1;omega,by show p+1≤e;omega,fun h=>by show p < p+1;omega,by show (0:Int)≤((_:Nat):Int);omega,by show ((_:Nat):Int) < 65536;omega⟩
   ·exact ⟨by show p≤p+1;omega,by show p+1≤e;omega,fun h=>by simp at h,by simp,by simp⟩
theorem lenX_ok (b:List UInt8) {e p:Nat} (op st:Bool) (hp:p≤e):p≤(qOu b e op st p).2.2∧(qOu b e op st p).2.2≤e∧((qOu b e op st p).2.1=0→p < (qOu b e op st p).2.2)∧-1≤(qOu b e op st p).1∧(qOu b e op st p).1 < 4294967296:=by
 have hx:=byteAt_lt b p
 unfold qOu
 split
 ·exact ⟨Nat.le_refl _,hp,fun h=>by simp at h,by simp,by simp⟩
 ·split
  ·exact ⟨by show p≤p+1;omega,by show p+1≤e;omega,fun h=>by show p < p+1;omega,by show (-1:Int)≤((_:Nat):Int);omega,by show ((_:Nat):Int) < _;omega⟩
  ·split
   ·exact ⟨by show p≤p+1;omega,by show p+1≤e;omega,fun h=>by simp at h,by simp,by simp⟩
   ·split
    ·exact ⟨by show p≤p+1;omega,by show p+1≤e;omega,fun h=>by show p < p+1;omega,by simp,by simp⟩
    ·split
     ·exact ⟨by show p≤p+1;omega,by show p+1≤e;omega,fun h=>by simp at h,by simp,by simp⟩
     ·have hk:qAq b p % 16≤4:=by omega
      split
      ·exact ⟨by show p≤p+1+_;omega,by show p+1+_≤e;omega,fun h=>by simp at h,by simp,by simp⟩
      ·have h1:=numB_lt b (qAq b p % 16) (p+1) 0 0 (by simp)
       have h2:256 ^ (0+qAq b p % 16)≤256 ^ 4:=Nat.pow_le_pow_right (by omega) (by omega)
       exact ⟨by show p≤p+1+_;omega,by show p+1+_≤e;omega,fun h=>by show p < p+1+_;omega,by show (-1:Int)≤((_:Nat):Int);omega,by show ((_:Nat):Int) < _;omega⟩
def vEs (b:List UInt8) (g:Nat→Rd) (e d:Nat) (t:Int) (n:Int×Int×Nat) (c:Nat):Node×Int×Nat×Nat :=
 if n.2.1≠0 then (.mk 0 [] [],n.2.1,n.2.2,c)
 else if d > 8 then (.mk 0 [] [],7,n.2.2,c+1)
 else if c+1 > 256 then (.mk 0 [] [],2,n.2.2,c+1)
 else if n.1 > (e:Int)-(n.2.2:Int) then (.mk 0 [] [],6,n.2.2,c+1)
 else if n.1 = -1 then (.mk t [] (qHz b (g e) e (e+1) n.2.2 (c+1) []).1,(qHz b (g e) e (e+1) n.2.2 (c+1) []).2)
 else if qBd t=true then (.mk t [] (qEh (g (n.2.2+n.1.toNat)) (n.2.2+n.1.toNat) (e+1) n.2.2 (c+1) []).1,(qEh (g (n.2.2+n.1.toNat)) (n.2.2+n.1.toNat) (e+1) n.2.2 (c+1) []).2)
 else (.mk t ((b.drop n.2.2).take n.1.toNat) [],0,n.2.2+n.1.toNat,c+1)
def qMt (b:List UInt8) (st:Bool):Nat→Nat→Nat→Nat→Nat→Node×Int×Nat×Nat
 | 0,e,d,p,c=>(.mk 0 [] [],7,p,c)
 | k+1,e,d,p,c =>
  if (qJr b e p).2.1≠0 then (.mk 0 [] [],(qJr b e p).2.1,(qJr b e p).2.2,c)
  else vEs b (fun e'=>qMt b st k e' (d+1)) e d (qJr b e p).1 (qOu b e (qBd (qJr b e p).1&&!st) st (qJr b e p).2.2) c
theorem objX_ok (b:List UInt8) (st:Bool):∀ (k e d:Nat),RdOk (qMt b st k e d) e
 | 0,e,d=>fun p c hp hc=>⟨Nat.le_refl _,hp,by show c≤257;omega,fun h=>by simp [qMt] at h⟩
 | k+1,e,d=>fun p c hp hc=>by
  have h1:=tagX_ok b hp
  rw [qMt]
  split
  ·rename_i he
   exact ⟨h1.1,h1.2.1,by show c≤257;omega,fun h=>absurd h he⟩
  ·rename_i he
   have h1':=h1.2.2.1 (by simpa using he)
   have h2:=lenX_ok b (qBd (qJr b e p).1&&!st) st h1.2.1
   generalize qOu b e (qBd (qJr b e p).1&&!st) st (qJr b e p).2.2=n at h2
   obtain ⟨n,e2,q⟩:=n
   simp only at h2
   have hq1:=h2.1
   have hq2:=h2.2.1
   unfold vEs
   simp only
   split
   ·rename_i he2
    exact ⟨by show p≤q;omega,hq2,by show c≤257;omega,fun h=>absurd h he2⟩
   ·split
    ·exact ⟨by show p≤q;omega,hq2,by show c+1≤257;omega,fun h=>by simp at h⟩
    ·split
     ·exact ⟨by show p≤q;omega,hq2,by show c+1≤257;omega,fun h=>by simp at h⟩
     ·split
      ·exact ⟨by show p≤q;omega,hq2,by show c+1≤257;omega,fun h=>by simp at h⟩
      ·rename_i hn
       split
       ·have:=kidsX_ok (b:=b) (objX_ok b st k e (d+1)) (e+1) q (c+1) [] hq2 (by omega)
        exact ⟨Nat.le_trans (by omega) this.1,this.2.1,this.2.2.1,fun h=>⟨Nat.lt_of_lt_of_le (by omega) this.1,this.2.2.2 h⟩⟩
       ·have hle:q+n.toNat≤e:=by omega
        split
        ·have:=loopX_ok (objX_ok b st k (q+n.toNat) (d+1)) (e+1) q (c+1) [] (by omega) (by omega)
         exact ⟨Nat.le_trans (by omega) this.1,Nat.le_trans this.2.1 hle,this.2.2.1,fun h=>⟨Nat.lt_of_lt_of_le (by omega) this.1,this.2.2.2 h⟩⟩
        ·exact ⟨by show p≤q+n.toNat;omega,hle,by show c+1≤257;omega,fun h=>⟨by show p < q+n.toNat;omega,by show c+1≤256;omega⟩⟩
set_option maxHeartbeats 16000000 in
set_option maxRecDepth 100000 in
theorem qWb (b:List UInt8) (st:Bool) (hb:b.length≤1000000):∀ (k d e:Nat),e≤b.length→d+k=9→ObjS b st (qMt b st (k+1) e d) e d:=by
 intro k
 induction k using Nat.strongRecOn with
 | _ k ih =>
 intro d e he hdk p c hp hc
 generalize hfin:qMt b st (k+1) e d p c=fin
 rw [qMt] at hfin
 have htag:=vFc b st e p c hb he hp
 have htok:=tagX_ok b hp
 generalize qJr b e p=tq at htag htok hfin
 obtain ⟨t,e1,p1⟩:=tq
 simp only at htag htok hfin
 have hcon:=qFe t (by omega)
 have hlen:=vFw b (qBd t&&!st) st e p1 c hb he htok.2.1
 have hlok:=lenX_ok b (qBd t&&!st) st htok.2.1
 generalize qOu b e (qBd t&&!st) st p1=nq at hlen hlok hfin
 obtain ⟨n,e2,q⟩:=nq
 simp only [vEs] at hlen hlok hfin
 generalize qBd t=con at hcon hlen hfin
 have hwc:IntKind.i64.wrap ((c:Int)+1)=((c+1:Nat):Int):=by rw [qAf (by omega)];simp
 have hwd:IntKind.i64.wrap ((d:Int)+1)=((d+1:Nat):Int):=by rw [qAf (by omega)];simp
 refine qAb hT Tryz.func342 rfl rfl rfl rfl ?_
 intro E hE
 refine ww ?_
 refine qAd (qFt rfl rfl htag [0] (by decide) rfl rfl rfl rfl rfl rfl rfl) rfl ?_
 refine ww ?_
 refine qAa rfl (fun h1=>?_) (fun h1=>?_)
 ·have h1':e1≠0:=by simpa using h1
  rw [if_pos h1'] at hfin
  subst hfin
  refine ww ?_
  exact qAh (r:=.tup [.agg (qHy (.mk 0 [] [])),.d (.int .i64 e1)]) rfl (AV.le.tup ⟨AV.le.agg ⟨.refl _,AV.le.dat,AV.le.dat,trivial⟩,.refl _,trivial⟩) rfl rfl rfl rfl ⟨rfl,rfl⟩
 ·have h1':¬ e1≠0:=by simpa using h1
  rw [if_neg h1'] at hfin
  refine ww ?_
  refine qAd (qBn rfl rfl hcon rfl rfl rfl) rfl ?_
  refine ww ?_
  refine qAd (qFt rfl rfl hlen [0] (by decide) rfl rfl rfl rfl rfl rfl rfl) rfl ?_
  refine ww ?_
  refine qAa rfl (fun h2=>?_) (fun h2=>?_)
  ·have h2':e2≠0:=by simpa using h2
   rw [if_pos h2'] at hfin
   subst hfin
   refine ww ?_
   exact qAh (r:=.tup [.agg (qHy (.mk 0 [] [])),.d (.int .i64 e2)]) rfl (AV.le.tup ⟨AV.le.agg ⟨.refl _,AV.le.dat,AV.le.dat,trivial⟩,.refl _,trivial⟩) rfl rfl rfl rfl ⟨rfl,rfl⟩
  ·have h2':¬ e2≠0:=by simpa using h2
   rw [if_neg h2'] at hfin
   have hwe:IntKind.i64.wrap ((e:Int)-(q:Int))=(e:Int)-(q:Int):=qAf (by omega)
   refine ww ?_
   refine qAa rfl (fun h3=>?_) (fun h3=>?_)
   ·have h3':d > 8:=by simp at h3;omega
    rw [if_pos h3'] at hfin
    subst hfin
    refine ww ?_
    exact qAh (r:=.tup [.agg (qHy (.mk 0 [] [])),.d (.int .i64 7)]) rfl (AV.le.tup ⟨AV.le.agg ⟨.refl _,AV.le.dat,AV.le.dat,trivial⟩,.refl _,trivial⟩) rfl rfl rfl rfl ⟨rfl,by rw [hwc];rfl⟩
   ·have h3':¬ d > 8:=by simp at h3;omega
    rw [if_neg h3'] at hfin
    refine ww ?_
    refine qAa rfl (fun h4=>?_) (fun h4=>?_)
    ·have h4':c+1 > 256:=by rw [hwc] at h4;simp at h4;omega
     rw [if_pos h4'] at hfin
     subst hfin
     refine ww ?_
     exact qAh (r:=.tup [.agg (qHy (.mk 0 [] [])),.d (.int .i64 2)]) rfl (AV.le.tup ⟨AV.le.agg ⟨.refl _,AV.le.dat,AV.le.dat,trivial⟩,.refl _,trivial⟩) rfl rfl rfl rfl ⟨rfl,by rw [hwc];rfl⟩
    ·have h4':¬ c+1 > 256:=by rw [hwc] at h4;simp at h4;omega
     rw [if_neg h4'] at hfin
     refine ww ?_
     refine qAa rfl (fun h5=>?_) (fun h5=>?_)
     ·have h5':n > (e:Int)-(q:Int):=by rw [hwe] at h5;simp at h5;omega
      rw [if_pos h5'] at hfin
      subst hfin
      refine ww ?_
      exact qAh (r:=.tup [.agg (qHy (.mk 0 [] [])),.d (.int .i64 6)]) rfl (AV.le.tup ⟨AV.le.agg ⟨.refl _,AV.le.dat,AV.le.dat,trivial⟩,.refl _,trivial⟩) rfl rfl rfl rfl ⟨rfl,by rw [hwc];rfl⟩
     ·have h5':¬ n > (e:Int)-(q:Int):=by rw [hwe] at h5;simp at h5;omega
      rw [if_neg h5'] at hfin
      obtain ⟨k,rfl⟩:∃ k',k=k'+1:=⟨k-1,by omega⟩
      have hrow:rdr b st q (c+1)=[.d (.sl 1 (qAl b)),.d (.int .i64 (q:Int)),.d (.bool st),.d (.int .i64 (IntKind.i64.wrap ((c:Int)+1)))]:=by rw [hwc];rfl
      refine ww ?_
      refine qAa rfl (fun h6=>?_) (fun h6=>?_)
      ·have h6':n = -1:=by simpa using h6
       rw [if_pos h6'] at hfin
       have hkd:=vCo b st (qMt b st (k+1) e (d+1)) e (d+1) hb he (by omega) (objX_ok b st (k+1) e (d+1)) (ih k (by omega) (d+1) e he (by omega)) q (c+1) (e+1) hlok.2.1 (by omega) (by omega)
       rw [← hwd,hrow] at hkd
       generalize qHz b (qMt b st (k+1) e (d+1)) e (e+1) q (c+1) []=kr at hkd hfin
       obtain ⟨ks,e3,p3,c3⟩:=kr
       simp only at hkd hfin
       subst hfin
       refine ww ?_
       refine qAd (qFt rfl rfl hkd [0] (by decide) rfl rfl rfl rfl rfl rfl rfl) rfl ?_
       refine ww ?_
       exact qAh (r:=.tup [.agg (qHy (.mk t [] ks)),.d (.int .i64 e3)]) rfl (AV.le.tup ⟨AV.le.agg ⟨.refl _,AV.le.dat,.refl _,trivial⟩,.refl _,trivial⟩) rfl rfl rfl rfl ⟨rfl,rfl⟩
      ·have h6':¬ n = -1:=by simpa using h6
       rw [if_neg h6'] at hfin
       obtain ⟨nn,rfl⟩:=Int.eq_ofNat_of_zero_le (show 0≤n by omega)
       rw [Int.toNat_natCast] at hfin
       have hwn:IntKind.i64.wrap ((q:Int)+(nn:Int))=((q+nn:Nat):Int):=by rw [qAf (by omega)];simp
       refine ww ?_
       refine qAa rfl (fun h7=>?_) (fun h7=>?_)
       ·rw [if_pos h7] at hfin
        have hob:=qLv b st (qMt b st (k+1) (q+nn) (d+1)) (q+nn) (d+1) hb (by omega) (by omega) (objX_ok b st (k+1) (q+nn) (d+1)) (ih k (by omega) (d+1) (q+nn) (by omega) (by omega)) q (c+1) (e+1) (by omega) (by omega) (by omega)
        rw [← hwd,← hwn,hrow] at hob
        generalize qEh (qMt b st (k+1) (q+nn) (d+1)) (q+nn) (e+1) q (c+1) []=kr at hob hfin
        obtain ⟨ks,e3,p3,c3⟩:=kr
        simp only at hob hfin
        subst hfin
        refine ww ?_
        refine qAd (qFt rfl rfl hob [0] (by decide) rfl rfl rfl rfl rfl rfl rfl) rfl ?_
        refine ww ?_
        exact qAh (r:=.tup [.agg (qHy (.mk t [] ks)),.d (.int .i64 e3)]) rfl (AV.le.tup ⟨AV.le.agg ⟨.refl _,AV.le.dat,.refl _,trivial⟩,.refl _,trivial⟩) rfl rfl rfl rfl ⟨rfl,rfl⟩
       ·have h7':¬ con=true:=by simp [h7]
        rw [if_neg h7'] at hfin
        subst hfin
        refine wwe ?_
        have hbl:=encB_length b
        have hwn2:IntKind.i64.wrap (((q+nn:Nat):Int))=((q+nn:Nat):Int):=qAf (by omega)
        have hcut:qOa (qAl b) (q:Int) (IntKind.i64.wrap ((q:Int)+(nn:Int)))=qAl ((b.drop q).take nn):=by
         rw [hwn];unfold qOa;rw [encB_drop,encB_take,Int.toNat_natCast];congr 2;omega
        have hcl:=qOn (qOa (qAl b) (q:Int) (IntKind.i64.wrap ((q:Int)+(nn:Int)))) (by rw [hcut,encB_length,List.length_take,List.length_drop];omega)
        refine qAk ?_
        refine qBm (fun i=>bif Nat.beq i 3||Nat.beq i 7||Nat.beq i 11 then [0] else bif Nat.beq i 17 then [2] else []) (fun i=>bif Nat.beq i 17 then [2] else []) mixed (by kernel_rfl) ?_
        refine wwg ?_
        refine qAm (os:=[]) (fun k hk1 hk2=>qBn rfl rfl hcl rfl rfl rfl) rfl ?_
        refine wwg ?_
        refine ww ?_
        exact qAh (r:=.tup [.agg (qHy (.mk t ((b.drop q).take nn) [])),.d (.int .i64 0)]) rfl (AV.le.tup ⟨AV.le.agg ⟨.refl _,AV.le.eq (congrArg (fun z=>AV.d (.sl 1 z)) hcut),AV.le.dat,trivial⟩,AV.le.eq (congrArg (fun z=>AV.d (.int .i64 z)) (show e2=0 by omega)),trivial⟩) rfl rfl rfl rfl ⟨rfl,by rw [hwc,hwn];rfl⟩
def qEf (b:List UInt8) (st:Bool):List Node×Int :=
 if b.length > 4096 then ([],2) else ((qEh (qMt b st 9 b.length 1) b.length (b.length+1) 0 0 []).1,(qEh (qMt b st 9 b.length 1) b.length (b.length+1) 0 0 []).2.1)
set_option maxHeartbeats 4000000 in
set_option maxRecDepth 100000 in
theorem qWw (b:List UInt8) (st:Bool) (hb:b.length≤1000000) :
  Spec Tryz.prog 178 [.d (.sl 1 (qAl b)),.d (.bool st)] [] (fun r h'=>r=.tup [.d (.sl 3 (encNs (qEf b st).1)),.d (.int .i64 (qEf b st).2)]∧h'=[]):=by
 have hbl:=encB_length b
 have hob:=qLv b st (qMt b st 9 b.length 1) b.length 1 hb (Nat.le_refl _) (by omega) (objX_ok b st 9 b.length 1) (qWb b st hb 8 1 b.length (Nat.le_refl _) rfl) 0 0 (b.length+1) (by omega) (by omega) (by omega)
 refine qAb hT Tryz.func178 rfl rfl rfl rfl ?_
 intro E hE
 unfold qEf
 refine ww ?_
 refine qAa rfl (fun h1=>?_) (fun h1=>?_)
 ·have h1':b.length > 4096:=by rw [hbl] at h1;simp at h1;omega
  rw [if_pos h1']
  refine ww ?_
  exact qAh (r:=.tup [.d (.sl 3 (encNs [])),.d (.int .i64 2)]) rfl (AV.le.tup ⟨AV.le.nils,.refl _,trivial⟩) rfl rfl rfl rfl ⟨rfl,rfl⟩
 ·have h1':¬ b.length > 4096:=by rw [hbl] at h1;simp at h1;omega
  rw [if_neg h1']
  generalize qEh (qMt b st 9 b.length 1) b.length (b.length+1) 0 0 []=kr at hob
  obtain ⟨ks,e3,p3,c3⟩:=kr
  simp only at hob ⊢
  rw [← hbl] at hob
  refine ww ?_
  refine qAd (qFt rfl rfl hob [0] (by decide) rfl rfl rfl rfl rfl rfl rfl) rfl ?_
  refine ww ?_
  exact qAh rfl (.refl _) rfl rfl rfl rfl ⟨rfl,rfl⟩
theorem qQh (b:List UInt8) (st:Bool) (hb:b.length≤9223372036854775807) :
  Spec Tryz.prog 178 [.d (.sl 1 (qAl b)),.d (.bool st)] [] (fun r h'=>r=.tup [.d (.sl 3 (encNs (qEf b st).1)),.d (.int .i64 (qEf b st).2)]∧h'=[]):=by
 by_cases hsm:b.length≤4096
 ·exact qWw b st (by omega)
 have hbl:=encB_length b
 unfold qEf
 rw [if_pos (show b.length > 4096 by omega)]
 refine qAb hT Tryz.func178 rfl rfl rfl rfl ?_
 intro E hE
 refine ww ?_
 refine qAa rfl (fun h1=>?_) (fun h1=>?_)
 ·refine ww ?_
  exact qAh (r:=.tup [.d (.sl 3 (encNs [])),.d (.int .i64 2)]) rfl (AV.le.tup ⟨AV.le.nils,.refl _,trivial⟩) rfl rfl rfl rfl ⟨rfl,rfl⟩
 ·rw [hbl] at h1
  simp at h1
  omega
end Tdoc
namespace Tdoc
open Go Go.Proofs
def qNy (l:List Int):List (List Dat):=l.map fun n=>[.int .i64 n]
theorem encI_length (l:List Int):(qNy l).length=l.length:=by simp [qNy]
theorem encI_at {l:List Int} {i:Nat} (h:i < l.length):(qNy l)[((i:Int)).toNat]?=some [.int .i64 l[i]]:=by simp [qNy,h]
def vAj:Int→List Int→Int
 | _,[]=>0
 | bf,n::l=>if n < 1∨n > 16 then 3 else if n≤bf then 17 else vAj n l
set_option maxHeartbeats 4000000 in
set_option maxRecDepth 100000 in
theorem qPc (l:List Int) (hl:l.length≤9223372036854775807):Spec Tryz.prog 191 [.d (.sl 1 (qNy l))] [] (fun r h'=>r=.d (.int .i64 (vAj 0 l))∧h'=[]):=by
 have hlen:=encI_length l
 refine qAb hT Tryz.func191 rfl rfl rfl rfl ?_
 intro E hE
 generalize hfin:vAj 0 l=fin
 refine ww ?_
 refine qAp (ι:=Nat×Int) (fun x=>[(3,.d (.int .i64 x.2)),(6,.d (.sl 1 (qNy l))),(7,.d (.int .i64 ((qNy l).length:Int))),(8,.d (.int .i64 (x.1:Int)))]) (fun _=>[]) (fun x=>x.1≤l.length∧vAj x.2 (l.drop x.1)=fin) (fun x=>l.length-x.1) (0,0) ⟨by simp,by simpa using hfin⟩
  ⟨.refl _,.refl _,.refl _,.refl _,trivial⟩ (HLe.refl _) ?_
 rintro ⟨i,bf⟩ ⟨hi,hg⟩
 simp only at hi hg ⊢
 refine ww ?_
 refine qAa rfl (fun h1=>?_) (fun h1=>?_)
 ·have h1':i < l.length:=by rw [hlen] at h1;simpa using h1
  have hwr:IntKind.i64.wrap ((i:Int)+1)=((i+1:Nat):Int):=by rw [qAf (by omega)];simp
  have hdrop:l.drop i=l[i]::l.drop (i+1):=by simp
  have hel:=encI_at h1'
  rw [hdrop,vAj] at hg
  generalize l[i]=x at hel hg
  refine ww ?_
  refine qAd (qAc (indexAddr_ok hT rfl rfl rfl rfl (by omega) hel)) rfl ?_
  refine ww ?_
  refine qAa rfl (fun h2=>?_) (fun h2=>?_)
  ·have h2':x < 1∨x > 16:=by simpa using h2
   rw [if_pos h2'] at hg
   subst hg
   refine ww ?_
   exact qAh rfl (.refl _) rfl rfl rfl rfl ⟨rfl,rfl⟩
  ·have h2':¬ (x < 1∨x > 16):=by simpa using h2
   rw [if_neg h2'] at hg
   refine ww ?_
   refine qAa rfl (fun h3=>?_) (fun h3=>?_)
   ·have h3':x≤bf:=by simpa using h3
    rw [if_pos h3'] at hg
    subst hg
    refine ww ?_
    exact qAh rfl (.refl _) rfl rfl rfl rfl ⟨rfl,rfl⟩
   ·have h3':¬ x≤bf:=by simpa using h3
    rw [if_neg h3'] at hg
    refine ww ?_
    exact ⟨(i+1,x),⟨by simp only;omega,hg⟩,by simp only;omega,⟨.refl _,.refl _,.refl _,AV.le.eq (congrArg (fun z=>AV.d (.int .i64 z)) hwr),trivial⟩,HLe.refl _⟩
 ·have hge:i=l.length:=by rw [hlen] at h1;simp at h1;omega
  subst hge
  rw [List.drop_length,vAj] at hg
  subst hg
  refine ww ?_
  exact qAh rfl (.refl _) rfl rfl rfl rfl ⟨rfl,rfl⟩
theorem ascX_range:∀ (bf:Int) (l:List Int),vAj bf l=0→∀ n,n∈l→1≤n∧n≤16
 | _,[],_,n,h=>by cases h
 | bf,a::l,h0,n,hn=>by
  rw [vAj] at h0
  split at h0
  ·simp at h0
  ·split at h0
   ·simp at h0
   ·cases hn with
    | head=>omega
    | tail _ hn=>exact ascX_range a l h0 n hn
theorem ascX_len16:∀ (bf:Int) (l:List Int),vAj bf l=0→bf≤16→(l.length:Int)+bf≤16
 | _,[],_,h=>by simpa using h
 | bf,a::l,h0,hb=>by
  rw [vAj] at h0
  split at h0
  ·simp at h0
  ·split at h0
   ·simp at h0
   ·have:=ascX_len16 a l h0 (by omega)
    simp only [List.length_cons];omega
def qDp (n:Int):UInt8:=UInt8.ofNat ((tagTab[(n-1).toNat]?).getD 0).toNat
def qLk (l:List Int):List UInt8×Int :=
 if vAj 0 l≠0 then ([],vAj 0 l) else qEa 17 [.mk 24321 [48,49,48,56] [],.mk 24374 [48,52,48,48,48,48] [],.mk 92 (l.map qDp) []]
end Tdoc
namespace Tdoc
open Go Go.Proofs
def qRl (l:List Int):List Node:=[.mk 24321 [48,49,48,56] [],.mk 24374 [48,52,48,48,48,48] [],.mk 92 (l.map qDp) []]
theorem wrL_cons_length (t:Int) (v:List UInt8) (k r:List Node):(wrL (.mk t v k::r)).length≤11+v.length+(wrL k).length+(wrL r).length:=by
 have h1:=wrL_one_le t v k
 have h2:=congrArg List.length (wrL_append [.mk t v k] r)
 rw [List.length_append] at h2
 have h3:[Node.mk t v k]++r=.mk t v k::r:=rfl
 rw [h3] at h2
 omega
theorem tagTab_range:∀ y,y∈tagTab→0≤y∧y≤255:=by decide
set_option maxHeartbeats 4000000 in
set_option maxRecDepth 100000 in
theorem qXe (l:List Int) (hl:l.length≤9223372036854775807):Spec Tryz.prog 106 [.d (.sl 1 (qNy l))] [] (fun r h'=>r=.tup [.d (.sl 1 (qAl (qLk l).1)),.d (.int .i64 (qLk l).2)]∧h'=[]):=by
 have hlen:=encI_length l
 have hasc:=qPc l (by omega)
 have hrg:=ascX_range 0 l
 have h16:=ascX_len16 0 l
 have hwrap:=fun (h0:l.length≤16)=>qGm 17 (by omega) (qRl l) (by simp [qRl]) ⟨⟨by omega,by simp,by simp,trivial⟩,⟨by omega,by simp,by simp,trivial⟩,⟨by omega,by simp;omega,by simp,trivial⟩,trivial⟩ (by simp [qRl,qAt,qCf]) (by
  have h1:=wrL_cons_length 24321 [48,49,48,56] [] [.mk 24374 [48,52,48,48,48,48] [],.mk 92 (l.map qDp) []]
  have h2:=wrL_cons_length 24374 [48,52,48,48,48,48] [] [.mk 92 (l.map qDp) []]
  have h3:=wrL_one_le 92 (l.map qDp) []
  simp only [wrL,List.length_cons,List.length_nil,List.length_map] at h1 h2 h3 ⊢
  simp only [qRl,wrL] at *
  omega)
 unfold qLk
 generalize vAj 0 l=e at hasc hrg h16
 refine qAb hT Tryz.func106 rfl rfl rfl rfl ?_
 intro E hE
 refine qAj ?_
 refine ww ?_
 refine qAd (qBn rfl rfl hasc rfl rfl rfl) rfl ?_
 refine ww ?_
 refine qAa rfl (fun h1=>?_) (fun h1=>?_)
 ·have h1':e≠0:=by simpa using h1
  rw [if_pos h1']
  refine ww ?_
  exact qAh (r:=.tup [.d (.sl 1 (qAl [])),.d (.int .i64 e)]) rfl (AV.le.tup ⟨AV.le.nils,.refl _,trivial⟩) rfl rfl rfl rfl ⟨rfl,rfl⟩
 ·have h1':¬ e≠0:=by simpa using h1
  have hrg:=hrg (by simpa using h1)
  rw [if_neg h1']
  have hl16:l.length≤16:=by have:=h16 (by simpa using h1) (by omega);omega
  have hwrap:=hwrap hl16
  refine wwe ?_
  refine qAk (qAg ?_)
  refine wws ?_
  refine qAz 5 1 0 (es:=[]) (.inr ⟨rfl,rfl⟩) rfl ?_
  refine ww ?_
  refine qAp (ι:=Nat) (fun i=>[(5,.sl 1 (qAl ((l.take i).map qDp)) (.right 0)),(13,.d (.sl 1 (qNy l))),(14,.d (.int .i64 ((qNy l).length:Int))),(15,.d (.int .i64 (i:Int)))]) (fun i=>[.right 1 (qAl ((l.take i).map qDp)).length]) (fun i=>i≤l.length) (fun i=>l.length-i) 0 (by omega)
   ⟨.refl _,.refl _,.refl _,.refl _,trivial⟩ (HLe.refl _) ?_
  intro i hi
  have hwr:IntKind.i64.wrap ((i:Int)+1)=((i+1:Nat):Int):=by rw [qAf (by omega)];simp
  refine ww ?_
  refine qAa rfl (fun h2=>?_) (fun h2=>?_)
  ·have h2':i < l.length:=by rw [hlen] at h2;simpa using h2
   have hel:=encI_at h2'
   have hr:=hrg l[i] (List.getElem_mem h2')
   have hsucc:(l.take (i+1)).map qDp=(l.take i).map qDp++[qDp l[i]]:=by rw [List.take_succ_eq_append_getElem h2',List.map_append];rfl
   generalize l[i]=x at hel hr hsucc
   have hwx:IntKind.i64.wrap (x-1)=x-1:=qAf (by omega)
   obtain ⟨y,hy,hd,_⟩:=tagD_at (i:=(x-1).toNat) (by omega)
   have hyr:=tagTab_range y (List.mem_of_getElem? hy)
   have htb:qDp x=UInt8.ofNat y.toNat:=by unfold qDp;rw [hy];rfl
   have hw8:IntKind.u8.wrap y=((UInt8.ofNat y.toNat).toNat:Int):=by rw [wrapu8 hyr,toNat_ofNat (by omega)];omega
   have hol:=encB_length ((l.take i).map qDp)
   rw [List.length_map,List.length_take] at hol
   refine qBv ?_
   refine qAk (qEm (qAk (qAg ?_)))
   refine qAd (qAc (indexAddr_ok hT rfl rfl rfl rfl (by omega) hel)) rfl ?_
   refine ww ?_
   refine qAd (qAc (arrAddr_ok (cs:=tagD) hT rfl rfl rfl rfl (by rw [hwx];omega))) rfl ?_
   rw [hwx,Nat.mul_one]
   generalize tagD.drop (x-1).toNat=cs at hd
   match cs,hd with
   | d::cs,hd =>
    simp only [List.getElem?_cons_zero,Option.some.injEq] at hd
    subst hd
    refine ww ?_
    refine qAd (qAi (i:=0) hT rfl rfl rfl rfl rfl rfl (by show ((qAl ((l.take i).map qDp)).length+1)*(1+1)≤_;omega)) rfl ?_
    refine ww ?_
    have hres:qAl ((l.take (i+1)).map qDp)=qAl ((l.take i).map qDp)++[[Dat.int .u8 (IntKind.u8.wrap y)]]:=by rw [hsucc,encB_append,htb,hw8];rfl
    exact ⟨i+1,by omega,by omega,⟨AV.le.eq (by rw [hres];rfl),.refl _,.refl _,AV.le.eq (congrArg (fun z=>AV.d (.int .i64 z)) hwr),trivial⟩,⟨⟨rfl,by rw [hres]⟩,trivial⟩⟩
  ·have hge:i=l.length:=by rw [hlen] at h2;simp at h2;omega
   subst hge
   rw [List.take_length]
   refine wwe ?_
   refine qAk (qXm [] _ rfl ?_)
   refine qJp hT rfl rfl rfl rfl ?_
   refine vJt ?_
   refine wws ?_
   refine qJp hT rfl rfl rfl rfl ?_
   refine vLe ?_
   refine wws ?_
   refine qAd (qKa rfl rfl hwrap rfl (by exact ⟨.refl _,AV.le.trans AV.le.dat (AV.le.eq rfl),trivial⟩) rfl rfl) rfl ?_
   refine ww ?_
   exact qAh rfl (.refl _) rfl rfl rfl rfl ⟨rfl,rfl⟩
end Tdoc
namespace Tdoc
open Go Go.Proofs
def qWa (b:List UInt8):Int×List Node×Int :=
 if (qEf b false).2≠0 then (0,[],(qEf b false).2) else match (qEf b false).1 with
  | [.mk t v k]=>if (qKt t).2≠0 then (0,[],(qKt t).2) else ((qKt t).1,k,0)
  | _=>(0,[],1)
set_option maxHeartbeats 4000000 in
set_option maxRecDepth 100000 in
theorem qUm (b:List UInt8) (hb:b.length≤9223372036854775807):Spec Tryz.prog 104 [.d (.sl 1 (qAl b))] []
  (fun r h'=>r=.tup [.d (.int .i64 (qWa b).1),.d (.sl 3 (encNs (qWa b).2.1)),.d (.int .i64 (qWa b).2.2)]∧h'=[]):=by
 have hps:=qQh b false hb
 unfold qWa
 generalize qEf b false=q at hps
 obtain ⟨l,e⟩:=q
 simp only at hps ⊢
 have hlen:=encNs_length l
 refine qAb hT Tryz.func104 rfl rfl rfl rfl ?_
 intro E hE
 refine ww ?_
 refine qAd (qBn rfl rfl hps rfl rfl rfl) rfl ?_
 refine ww ?_
 refine qAa rfl (fun h1=>?_) (fun h1=>?_)
 ·have h1':e≠0:=by simpa using h1
  rw [if_pos h1']
  refine ww ?_
  exact qAh (r:=.tup [.d (.int .i64 0),.d (.sl 3 (encNs [])),.d (.int .i64 e)]) rfl (AV.le.tup ⟨.refl _,AV.le.nils,.refl _,trivial⟩) rfl rfl rfl rfl ⟨rfl,rfl⟩
 ·have h1':¬ e≠0:=by simpa using h1
  rw [if_neg h1']
  refine ww ?_
  refine qAa rfl (fun h2=>?_) (fun h2=>?_)
  ·have h2':l.length≠1:=by rw [hlen] at h2;simp at h2;omega
   refine ww ?_
   refine qAh (r:=.tup [.d (.int .i64 0),.d (.sl 3 (encNs [])),.d (.int .i64 1)]) rfl (AV.le.tup ⟨.refl _,AV.le.nils,.refl _,trivial⟩) rfl rfl rfl rfl ⟨?_,rfl⟩
   match l,h2' with
   | [],_=>rfl
   | [a],h=>exact absurd rfl h
   | .mk _ _ _::c::r,_=>rfl
  ·have h2':l.length=1:=by rw [hlen] at h2;simp at h2;omega
   match l,h2' with
   | [.mk t v k],_ =>
    have hgr:=vAs t
    simp only
    generalize qKt t=g at hgr
    obtain ⟨g,f⟩:=g
    simp only at hgr ⊢
    have hel:(encNs [.mk t v k])[((0:Int)).toNat]?=some [.int .i64 t,.sl 1 (qAl v),.sl 3 (encNs k)]:=rfl
    refine ww ?_
    refine qAd (qAc (indexAddr_ok hT rfl rfl rfl rfl (by omega) hel)) rfl ?_
    refine ww ?_
    refine qAd (qBn rfl rfl hgr rfl rfl rfl) rfl ?_
    refine ww ?_
    refine qAa rfl (fun h3=>?_) (fun h3=>?_)
    ·have h3':f≠0:=by simpa using h3
     rw [if_pos h3']
     refine ww ?_
     exact qAh (r:=.tup [.d (.int .i64 0),.d (.sl 3 (encNs [])),.d (.int .i64 f)]) rfl (AV.le.tup ⟨.refl _,AV.le.nils,.refl _,trivial⟩) rfl rfl rfl rfl ⟨rfl,rfl⟩
    ·have h3':¬ f≠0:=by simpa using h3
     rw [if_neg h3']
     refine ww ?_
     refine qAx (qAc (indexAddr_ok hT rfl rfl rfl rfl (by omega) hel)) rfl rfl ?_
     refine ww ?_
     exact qAh rfl (.refl _) rfl rfl rfl rfl ⟨rfl,rfl⟩
end Tdoc
namespace Tdoc
open Go Go.Proofs
theorem byteCells_encB (v:List UInt8):qTy (qAl v):=fun e he=>by
 unfold qAl at he
 obtain ⟨x,_,rfl⟩:=List.mem_map.1 he
 exact ⟨_,rfl⟩
theorem bytesOf_encB (v:List UInt8):qRp (qAl v)=v:=by
 unfold qRp qAl
 rw [List.map_map]
 conv=>rhs;rw [← List.map_id v]
 apply List.map_congr_left
 intro x _
 show UInt8.ofNat ((x.toNat:Int)).toNat=x
 simp
end Tdoc
namespace Tdoc
open Go Go.Proofs
end Tdoc
namespace Tdoc
open Go Go.Proofs
end Tdoc
namespace Tdoc
open Go Go.Proofs
end Tdoc
namespace Tdoc
open Go Go.Proofs
def pG:Nat:=2147483579
def qOx:Nat→Nat→Nat→Nat→Nat
 | 0,x,k,out=>out
 | m+1,x,k,out=>if k=0 then out else qOx m (x*x % pG) (k / 2) (if k % 2=1 then out*x % pG else out)
theorem mulP_lt {a b:Nat} (ha:a < pG) (hb:b < pG):a*b≤4611686018427387904:=by
 have:=Nat.mul_le_mul (Nat.le_of_lt ha) (Nat.le_of_lt hb)
 exact Nat.le_trans this (by decide)
set_option maxHeartbeats 4000000 in
set_option maxRecDepth 100000 in
theorem qYo (x k m:Nat) (hx:x < pG) (hk:k≤9223372036854775807) (hm:k < 2 ^ m) :
  Spec Tryz.prog 209 [.d (.int .i64 (x:Int)),.d (.int .i64 (k:Int))] [] (fun r h'=>r=.d (.int .i64 (qOx m x k 1:Int))∧h'=[]):=by
 refine qAb hT Tryz.func209 rfl rfl rfl rfl ?_
 intro E hE
 generalize hfin:qOx m x k 1=fin
 refine ww ?_
 refine qAp (ι:=Nat×Nat×Nat×Nat) (fun y=>[(0,.d (.int .i64 (y.1:Int))),(1,.d (.int .i64 (y.2.1:Int))),(5,.d (.int .i64 (y.2.2.1:Int)))]) (fun _=>[])
  (fun y=>y.1 < pG∧y.2.1≤9223372036854775807∧y.2.2.1 < pG∧y.2.1 < 2 ^ y.2.2.2∧qOx y.2.2.2 y.1 y.2.1 y.2.2.1=fin) (fun y=>y.2.1) (x,k,1,m) ⟨hx,hk,show 1 < pG by decide,hm,hfin⟩ ⟨.refl _,.refl _,.refl _,trivial⟩ (HLe.refl _) ?_
 rintro ⟨x,k,out,m⟩ ⟨hx,hk,ho,hm,hg⟩
 simp only at hx hk ho hm hg ⊢
 refine ww ?_
 refine qAa rfl (fun h1=>?_) (fun h1=>?_)
 ·have h1':0 < k:=by simpa using h1
  obtain ⟨m,rfl⟩:∃ m',m=m'+1:=⟨m-1,by cases m with | zero=>simp at hm;omega | succ m=>simp⟩
  rw [qOx,if_neg (by omega)] at hg
  refine ww ?_
  have hxx:=mulP_lt hx hx
  have hox:=mulP_lt ho hx
  have hm1:IntKind.i64.wrap ((x:Int)*(x:Int))=((x*x:Nat):Int):=by rw [← Int.natCast_mul];exact qAf (by omega)
  have hm2:IntKind.i64.wrap ((out:Int)*(x:Int))=((out*x:Nat):Int):=by rw [← Int.natCast_mul];exact qAf (by omega)
  have ht1:Int.tmod (IntKind.i64.wrap ((x:Int)*(x:Int))) 2147483579=((x*x % pG:Nat):Int):=by rw [hm1];rfl
  have ht2:Int.tmod (IntKind.i64.wrap ((out:Int)*(x:Int))) 2147483579=((out*x % pG:Nat):Int):=by rw [hm2];rfl
  have htk:Int.tmod (k:Int) 2=((k % 2:Nat):Int):=rfl
  have hdk:Int.tdiv (k:Int) 2=((k / 2:Nat):Int):=rfl
  have hwd:IntKind.i64.wrap (Int.tdiv (k:Int) 2)=((k / 2:Nat):Int):=by rw [hdk];exact qAf (by omega)
  have hl1:x*x % pG < pG:=Nat.mod_lt _ (by decide)
  have hl2:out*x % pG < pG:=Nat.mod_lt _ (by decide)
  have hk2:k / 2 < 2 ^ m:=by rw [Nat.pow_succ] at hm;omega
  refine qAa rfl (fun h2=>?_) (fun h2=>?_)
  ·have h2':k % 2=1:=by rw [htk] at h2;simp at h2;omega
   rw [if_pos h2'] at hg
   refine ww ?_
   exact ⟨(x*x % pG,k / 2,out*x % pG,m),⟨hl1,by show k / 2≤_;omega,hl2,hk2,hg⟩,by show k / 2 < k;omega,⟨AV.le.eq (congrArg (fun z=>AV.d (.int .i64 z)) ht1),AV.le.eq (congrArg (fun z=>AV.d (.int .i64 z)) hwd),AV.le.eq (congrArg (fun z=>AV.d (.int .i64 z)) ht2),trivial⟩,HLe.refl _⟩
  ·have h2':¬ k % 2=1:=by rw [htk] at h2;simp at h2;omega
   rw [if_neg h2'] at hg
   refine ww ?_
   exact ⟨(x*x % pG,k / 2,out,m),⟨hl1,by show k / 2≤_;omega,ho,hk2,hg⟩,by show k / 2 < k;omega,⟨AV.le.eq (congrArg (fun z=>AV.d (.int .i64 z)) ht1),AV.le.eq (congrArg (fun z=>AV.d (.int .i64 z)) hwd),.refl _,trivial⟩,HLe.refl _⟩
 ·have h1':k=0:=by simp at h1;omega
  subst h1'
  have hg':out=fin:=by rw [← hg];cases m <;> simp [qOx]
  subst hg'
  refine ww ?_
  exact qAh rfl (.refl _) rfl rfl rfl rfl ⟨rfl,rfl⟩
end Tdoc
namespace Tdoc
open Go Go.Proofs
set_option maxHeartbeats 4000000 in
set_option maxRecDepth 100000 in
theorem vAr:Spec Tryz.prog 338 [.d (.int .u64 1073741789)] [] (fun r h'=>r=.d (.int .i64 30)∧h'=[]):=by
 refine qAb hT Tryz.func338 rfl rfl rfl rfl ?_
 intro E hE
 refine ww ?_
 refine qAa rfl (fun h1=>?_) (fun h1=>?_)
 ·exact absurd h1 (by decide)
 ·refine ww ?_
  refine qAa rfl (fun h2=>?_) (fun h2=>?_)
  ·refine ww ?_
   refine qAa rfl (fun h3=>?_) (fun h3=>?_)
   ·refine ww ?_
    refine qHf hT rfl rfl (by decide) ?_
    refine ww ?_
    exact qAh (r:=.d (.int .i64 30)) rfl (AV.le.eq (by rfl)) rfl rfl rfl rfl ⟨rfl,rfl⟩
   ·exact absurd h3 (by decide)
  ·exact absurd h2 (by decide)
set_option maxHeartbeats 4000000 in
set_option maxRecDepth 100000 in
theorem vHa:Spec Tryz.prog 268 [.d (.int .u64 1073741789)] [] (fun r h'=>r=.d (.int .i64 30)∧h'=[]):=by
 refine qAb hT Tryz.func268 rfl rfl rfl rfl ?_
 intro E hE
 refine ww ?_
 refine qAa rfl (fun h1=>?_) (fun h1=>?_)
 ·exact absurd h1 (by decide)
 ·refine ww ?_
  refine qAd (qBn rfl rfl vAr rfl rfl rfl) rfl ?_
  refine ww ?_
  exact qAh rfl (.refl _) rfl rfl rfl rfl ⟨rfl,rfl⟩
end Tdoc
namespace Tdoc
open Go Go.Proofs
end Tdoc
namespace Tdoc
open Go Go.Proofs
theorem vBf (n:Nat):(List.replicate n [AV.d (.int .u8 0)]).flatten=qAn (List.replicate n 0):=by
 induction n with
 | zero=>rfl
 | succ n ih=>rw [List.replicate_succ,List.flatten_cons,ih];rfl
end Tdoc
namespace Tdoc
open Go Go.Proofs
def qG:Nat:=1073741789
theorem qG_div:∀ {i:Nat},i < 30→qG / 2 ^ i≠0:=by
 have h:∀ i,i∈List.range 30→qG / 2 ^ i≠0:=by decide
 exact fun {i} hi=>h i (List.mem_range.2 hi)
theorem qZj (x:Nat) (hx:x < pG):Spec Tryz.prog 173 [.d (.int .i64 (x:Int)),.d (.int .i64 1073741789)] [] (fun r h'=>r=.d (.int .i64 (qOx 30 x qG 1:Int))∧h'=[]):=by
 have hlen:Spec Tryz.prog 268 [.d (.int .u64 (IntKind.u64.wrap 1073741789))] [] (fun r h'=>r=.d (.int .i64 30)∧h'=[]):=by
  rw [show IntKind.u64.wrap 1073741789=1073741789 by decide];exact vHa
 generalize hfin:qOx 30 x qG 1=fin
 refine qAb hT Tryz.func173 rfl rfl rfl rfl ?_;intro E hE
 refine ww ?_
 refine wwc hlen ?_
 refine ww ?_
 refine qAp (ι:=Nat×Nat×Nat) (fun y=>[(0,.d (.int .i64 (y.2.1:Int))),(1,.d (.int .i64 1073741789)),(5,.d (.int .i64 (y.2.2:Int))),(9,.d (.int .i64 30)),(10,.d (.int .i64 (y.1:Int)))]) (fun _=>[])
  (fun y=>y.1≤30∧y.2.1 < pG∧y.2.2 < pG∧qOx (30-y.1) y.2.1 (qG / 2 ^ y.1) y.2.2=fin) (fun y=>30-y.1) (0,x,1) ⟨by omega,hx,show 1 < pG by decide,by simpa using hfin⟩ ⟨.refl _,.refl _,.refl _,.refl _,.refl _,trivial⟩ (HLe.refl _) ?_
 rintro ⟨i,x,out⟩ ⟨hi,hx,ho,hg⟩
 simp only at hi hx ho hg ⊢
 refine ww ?_
 refine qAa rfl (fun h1=>?_) (fun h1=>?_)
 ·have h1':i < 30:=by simp at h1;omega
  have hq:=qG_div h1'
  have hq2:qG / 2 ^ i < 9223372036854775808:=Nat.lt_of_le_of_lt (Nat.div_le_self _ _) (by decide)
  obtain ⟨m,hm⟩:∃ m,30-i=m+1:=⟨30-i-1,by omega⟩
  rw [hm,qOx,if_neg hq,Nat.div_div_eq_div_mul,← Nat.pow_succ] at hg
  have hm':m=30-(i+1):=by omega
  subst hm'
  have hsh:Int.fdiv 1073741789 (2 ^ (min ((i:Int)).toNat IntKind.i64.bits))=((qG / 2 ^ i:Nat):Int):=by
   rw [show min ((i:Int)).toNat IntKind.i64.bits=i by simp [IntKind.bits];omega]
   exact qDq qG i
  have hand:IntKind.i64.wrap ((BitVec.ofInt IntKind.i64.bits (Int.fdiv 1073741789 (2 ^ (min ((i:Int)).toNat IntKind.i64.bits))) &&& BitVec.ofInt IntKind.i64.bits 1).toNat:Int)=((qG / 2 ^ i % 2:Nat):Int):=by
   rw [hsh]
   have:=qRx (a:=qG / 2 ^ i) (b:=1) hq2 (by omega)
   rw [Nat.and_one_is_mod] at this
   exact this
  have hxx:=mulP_lt hx hx
  have hox:=mulP_lt ho hx
  have hm1:IntKind.i64.wrap ((x:Int)*(x:Int))=((x*x:Nat):Int):=by rw [← Int.natCast_mul];exact qAf (by omega)
  have hm2:IntKind.i64.wrap ((out:Int)*(x:Int))=((out*x:Nat):Int):=by rw [← Int.natCast_mul];exact qAf (by omega)
  have ht1:Int.tmod (IntKind.i64.wrap ((x:Int)*(x:Int))) 2147483579=((x*x % pG:Nat):Int):=by rw [hm1];rfl
  have ht2:Int.tmod (IntKind.i64.wrap ((out:Int)*(x:Int))) 2147483579=((out*x % pG:Nat):Int):=by rw [hm2];rfl
  have hwi:IntKind.i64.wrap ((i:Int)+1)=((i+1:Nat):Int):=by rw [qAf (by omega)];omega
  have hl1:x*x % pG < pG:=Nat.mod_lt _ (by decide)
  have hl2:out*x % pG < pG:=Nat.mod_lt _ (by decide)
  generalize qG / 2 ^ i % 2=bt at hand hg
  refine ww ?_
  refine qAa rfl (fun h2=>?_) (fun h2=>?_)
  ·have h2':bt=1:=by rw [hand] at h2;simp at h2;omega
   rw [if_pos h2'] at hg
   refine ww ?_
   exact ⟨(i+1,x*x % pG,out*x % pG),⟨h1',hl1,hl2,hg⟩,by simp only;omega,⟨.int ht1,.refl _,.int ht2,.refl _,.int hwi,trivial⟩,HLe.refl _⟩
  ·have h2':¬ bt=1:=by rw [hand] at h2;simp at h2;omega
   rw [if_neg h2'] at hg
   refine ww ?_
   exact ⟨(i+1,x*x % pG,out),⟨h1',hl1,ho,hg⟩,by simp only;omega,⟨.int ht1,.refl _,.refl _,.refl _,.int hwi,trivial⟩,HLe.refl _⟩
 ·have h1':i=30:=by simp at h1;omega
  subst h1'
  have hg':out=fin:=by rw [← hg];rfl
  subst hg'
  refine ww ?_
  exact wwr
def qGg (x:Int):Bool:=decide (0 < x∧x < 2147483579)
def qDe (x:Int):Bool:=qGg x&&decide (x≠1)&&decide (qOx 30 x.toNat qG 1=1)
theorem qLu (x:Int):Spec Tryz.prog 322 [.d (.int .i64 x)] [] (fun r h'=>r=.d (.bool (qGg x))∧h'=[]):=by
 refine qAb hT Tryz.func322 rfl rfl rfl rfl ?_;intro E hE
 refine ww ?_
 exact vBz ⟨rfl,rfl⟩ rfl (.bool (by unfold qGg;rw [Bool.decide_and])) rfl rfl rfl rfl
theorem residueR_spec (x:Int):Spec Tryz.prog 310 [.d (.int .i64 x)] [] (fun r h'=>r=.d (.bool (qGg x))∧h'=[]):=by
 refine qAb hT Tryz.func310 rfl rfl rfl rfl ?_;intro E hE
 refine ww ?_
 exact vBz ⟨rfl,rfl⟩ rfl (.bool (by unfold qGg;rw [Bool.decide_and];congr 1)) rfl rfl rfl rfl
theorem vHr (x y:Int):(x != y)=decide (x≠y):=by rw [Bool.eq_iff_iff];simp
theorem vCz (n:Nat):((n:Int) == 1)=decide (n=1):=by rw [Bool.eq_iff_iff];simp;omega
theorem qFv (x:Int):Spec Tryz.prog 243 [.d (.int .i64 x)] [] (fun r h'=>r=.d (.bool (qDe x))∧h'=[]):=by
 have hres:=qLu x
 have hp:qGg x=true→Spec Tryz.prog 173 [.d (.int .i64 x),.d (.int .i64 1073741789)] [] (fun r h'=>r=.d (.int .i64 (qOx 30 x.toNat qG 1:Int))∧h'=[]):=fun hr=>by
  have hr:0 < x∧x < 2147483579:=of_decide_eq_true hr
  have hp:=qZj x.toNat (by unfold pG;omega)
  rw [Int.toNat_of_nonneg (by omega)] at hp
  exact hp
 unfold qDe
 generalize qOx 30 x.toNat qG 1=pw at hp
 generalize qGg x=c at hp hres
 refine qAb hT Tryz.func243 rfl rfl rfl rfl ?_;intro E hE
 refine ww ?_
 refine wwc hres ?_
 refine ww ?_
 refine qDc (v:=.d (.int .i64 (pw:Int))) rfl rfl rfl (fun hg=>⟨by first | exact True.intro | exact ⟨hg,True.intro⟩ | exact ⟨hg,hg,True.intro⟩,qBn rfl rfl (hp (by simp [gval] at hg;exact hg.1)) rfl rfl rfl⟩) ?_
 refine ww ?_
 exact vBz ⟨rfl,rfl⟩ rfl (.bool (by rw [vHr,vCz])) rfl rfl rfl rfl
theorem qKx (x:Int):Spec Tryz.prog 225 [.d (.int .i64 x)] [] (fun r h'=>r=.d (.bool (qDe x))∧h'=[]):=by
 have hres:=residueR_spec x
 have hp:qGg x=true→Spec Tryz.prog 209 [.d (.int .i64 x),.d (.int .i64 1073741789)] [] (fun r h'=>r=.d (.int .i64 (qOx 30 x.toNat qG 1:Int))∧h'=[]):=fun hr=>by
  have hr:0 < x∧x < 2147483579:=of_decide_eq_true hr
  have hp:=qYo x.toNat qG 30 (by unfold pG;omega) (by decide) (by decide)
  rw [Int.toNat_of_nonneg (by omega)] at hp
  exact hp
 unfold qDe
 generalize qOx 30 x.toNat qG 1=pw at hp
 generalize qGg x=c at hp hres
 refine qAb hT Tryz.func225 rfl rfl rfl rfl ?_;intro E hE
 refine ww ?_
 refine wwc hres ?_
 refine ww ?_
 refine qDc (v:=.d (.int .i64 (pw:Int))) rfl rfl rfl (fun hg=>⟨by first | exact True.intro | exact ⟨hg,True.intro⟩ | exact ⟨hg,hg,True.intro⟩,qBn rfl rfl (hp (by simp [gval] at hg;exact hg.1)) rfl rfl rfl⟩) ?_
 refine ww ?_
 exact vBz ⟨rfl,rfl⟩ rfl (.bool (by rw [vHr,vCz])) rfl rfl rfl rfl
theorem elemG_range {x:Int} (h:qDe x=true):0 < x∧x < 2147483579:=by
 unfold qDe qGg at h
 simp only [Bool.and_eq_true] at h
 exact of_decide_eq_true h.1.1
def qAu:Nat→Nat→List UInt8
 | 0,_=>[]
 | m+1,n=>qAu m (n / 256)++[UInt8.ofNat (n % 256)]
theorem octB_length:∀ (m n:Nat),(qAu m n).length=m
 | 0,_=>rfl
 | m+1,n=>by simp [qAu,octB_length m]
theorem octB_succ:∀ (m n:Nat),qAu (m+1) n=UInt8.ofNat (n / 256 ^ m % 256)::qAu m n
 | 0,n=>by simp [qAu]
 | m+1,n=>by
  have ih:=octB_succ m (n / 256)
  rw [qAu,ih,qAu,Nat.div_div_eq_div_mul,Nat.pow_succ,Nat.mul_comm (256 ^ m)]
  rfl
theorem qQr {α:Type} (z b:α) (l:List α):∀ (k:Nat),(List.replicate (k+1) z++l).set k b=List.replicate k z++b::l
 | 0=>rfl
 | k+1=>by
  have:=qQr z b l k
  rw [List.replicate_succ,List.cons_append,List.set_cons_succ,this,← List.cons_append,← List.replicate_succ]
theorem qDi (n m:Nat) (hm:m≤7) (hn:n < 256 ^ m):Spec Tryz.prog 245 [.d (.int .i64 (n:Int)),.d (.int .i64 (m:Int))] [] (fun r h'=>r=.tup [.d (.sl 1 (qAl (qAu m n))),.d (.int .i64 0)]∧h'=[]):=by
 have hn8:n < 2 ^ (8*m):=by rw [show (256:Nat)=2 ^ 8 by rfl,← Nat.pow_mul] at hn;exact hn
 have hn2:n < 72057594037927936:=Nat.lt_of_lt_of_le hn (Nat.le_trans (Nat.pow_le_pow_right (by omega) hm) (by decide))
 have hw8:IntKind.i64.wrap (8*(m:Int))=((8*m:Nat):Int):=by rw [qAf (by omega)];omega
 have hz:Int.fdiv (n:Int) (2 ^ (min (IntKind.i64.wrap (8*(m:Int))).toNat IntKind.i64.bits))=0:=by
  rw [hw8,show min (((8*m:Nat):Int)).toNat IntKind.i64.bits=8*m by simp [IntKind.bits];omega,qDq,Nat.div_eq_of_lt hn8];rfl
 refine qAb hT Tryz.func245 rfl rfl rfl rfl ?_;intro E hE
 refine ww ?_
 refine qAa rfl (fun h1=>?_) (fun h1=>?_)
 ·exact absurd h1 (by simp;omega)
 refine ww ?_
 refine qAa rfl (fun h2=>?_) (fun h2=>?_)
 ·refine absurd h2 ?_
  rw [hz];simp
 refine ww ?_
 refine qAd (makeRow_ok (n:=m) hT rfl rfl rfl rfl (by show 1*m≤_;omega) (by omega)) rfl ?_
 rw [vBf]
 refine ww ?_
 refine qAp (ι:=Nat) (fun i=>[(0,.d (.int .i64 (n:Int))),(1,.d (.int .i64 (m:Int))),(6,.row 0 0 m m),(25,.d (.int .i64 (m:Int))),(26,.d (.int .i64 (i:Int)))]) (fun i=>[.row (qAn (List.replicate (m-i) 0++qAu i n))])
  (fun i=>i≤m) (fun i=>m-i) 0 (by omega) ⟨.refl _,.refl _,.refl _,.refl _,.refl _,trivial⟩ ⟨by simp [qAu];exact ObLe.refl _,trivial⟩ ?_
 intro i hi
 refine ww ?_
 refine qAa rfl (fun h3=>?_) (fun h3=>?_)
 ·have h3':i < m:=by simp at h3;omega
  have hwi:IntKind.i64.wrap ((i:Int)+1)=((i+1:Nat):Int):=by rw [qAf (by omega)];omega
  have hix:IntKind.i64.wrap (IntKind.i64.wrap ((m:Int)-1)-(i:Int))=((m-1-i:Nat):Int):=by rw [qAf (n:=(m:Int)-1) (by omega),qAf (by omega)];omega
  have hwb:IntKind.i64.wrap (8*(i:Int))=((8*i:Nat):Int):=by rw [qAf (by omega)];omega
  have hby:IntKind.u8.wrap (Int.fdiv (n:Int) (2 ^ (min (IntKind.i64.wrap (8*(i:Int))).toNat IntKind.i64.bits)))=((UInt8.ofNat (n / 256 ^ i % 256)).toNat:Int):=by
   rw [hwb,show min (((8*i:Nat):Int)).toNat IntKind.i64.bits=8*i by simp [IntKind.bits];omega,qDq,qCj,toNat_ofNat (Nat.mod_lt _ (by omega)),Nat.pow_mul];simp
  have hrow:(qAn (List.replicate (m-i) 0++qAu i n)).set (m-1-i) (AV.d (.int .u8 (IntKind.u8.wrap (Int.fdiv (n:Int) (2 ^ (min (IntKind.i64.wrap (8*(i:Int))).toNat IntKind.i64.bits))))))=qAn (List.replicate (m-(i+1)) 0++qAu (i+1) n):=by
   rw [hby,octB_succ,show m-i=(m-(i+1))+1 by omega,show m-1-i=m-(i+1) by omega]
   have:=qQr (0:UInt8) (UInt8.ofNat (n / 256 ^ i % 256)) (qAu i n) (m-(i+1))
   rw [← this]
   simp [qAn,List.map_set]
  have hlen:(qAn (List.replicate (m-i) 0++qAu i n)).length=m:=by rw [byteAV_length];simp [octB_length];omega
  generalize qAn (List.replicate (m-i) 0++qAu i n)=row at hrow hlen
  refine ww ?_
  refine qAd (qAc (rowAddr_ok (sz:=1) hT rfl rfl rfl rfl (by rw [hix];omega))) rfl ?_
  refine qCc (qEv hT rfl rfl rfl rfl rfl rfl (by rw [hix,hlen];simp;omega)) rfl ?_
  refine ww ?_
  refine ⟨i+1,by omega,by omega,⟨.refl _,.refl _,.refl _,.refl _,.int hwi,trivial⟩,⟨?_,trivial⟩⟩
  rw [← hrow]
  exact ObLe.row (by rw [hix,show 0+(((m-1-i:Nat):Int)).toNat*1=m-1-i by simp];rfl)
 ·have h3':i=m:=by simp at h3;omega
  subst h3'
  rw [Nat.sub_self,List.replicate_zero,List.nil_append]
  refine wwe ?_
  refine qLa 6 0 1 (qAl (qAu i n)) rfl rfl (by rw [encB_length,octB_length]) (Nat.le_refl _) (qFa _) ?_
  refine ww ?_
  exact wwr
theorem qFu (x:Int):Spec Tryz.prog 179 [.d (.int .i64 x)] [] (fun r h'=>r=.tup [.d (.sl 1 (qAl (if qDe x=true then qAu 4 x.toNat else []))),.d (.int .i64 (if qDe x=true then 0 else 10))]∧h'=[]):=by
 have hel:=qFv x
 have hoc:qDe x=true→Spec Tryz.prog 245 [.d (.int .i64 x),.d (.int .i64 4)] [] (fun r h'=>r=.tup [.d (.sl 1 (qAl (qAu 4 x.toNat))),.d (.int .i64 0)]∧h'=[]):=fun h=>by
  have hr:=elemG_range h
  have:=qDi x.toNat 4 (by omega) (by omega)
  rw [Int.toNat_of_nonneg (by omega)] at this
  exact this
 generalize qAu 4 x.toNat=bs at hoc
 generalize qDe x=c at hel hoc
 refine qAb hT Tryz.func179 rfl rfl rfl rfl ?_;intro E hE
 refine ww ?_
 refine wwc hel ?_
 refine ww ?_
 refine qAa rfl (fun h1=>?_) (fun h1=>?_)
 ·obtain rfl:c=false:=by simpa using h1
  refine ww ?_
  exact wwr
 ·obtain rfl:c=true:=by simpa using h1
  have hoc:=hoc rfl
  refine ww ?_
  refine wwc hoc ?_
  refine ww ?_
  exact wwr
theorem qIe (n k:Nat) (h:n < 9223372036854775808):IntKind.u8.wrap (Int.fdiv (n:Int) (2 ^ (min ((k:Int)).toNat IntKind.i64.bits)))=((UInt8.ofNat (n / 2 ^ (min k 64) % 256)).toNat:Int):=by
 rw [show min ((k:Int)).toNat IntKind.i64.bits=min k 64 by simp [IntKind.bits],qDq,qCj,toNat_ofNat (Nat.mod_lt _ (by omega))];simp
theorem qKw (n:Nat) (hn:n < 9223372036854775808):Spec Tryz.prog 206 [.d (.int .i64 (n:Int))] [] (fun r h'=>r=.d (.sl 1 (qAl (qAu 4 n)))∧h'=[]):=by
 have h0:IntKind.u8.wrap (n:Int)=((UInt8.ofNat (n % 256)).toNat:Int):=by rw [qCj,toNat_ofNat (Nat.mod_lt _ (by omega))];simp
 have h1:=qIe n 8 hn
 have h2:=qIe n 16 hn
 have h3:=qIe n 24 hn
 have ho:qAu 4 n=[UInt8.ofNat (n / 2 ^ 24 % 256),UInt8.ofNat (n / 2 ^ 16 % 256),UInt8.ofNat (n / 2 ^ 8 % 256),UInt8.ofNat (n % 256)]:=by
  simp only [qAu,Nat.div_div_eq_div_mul];rfl
 refine qAb hT Tryz.func206 rfl rfl rfl rfl ?_;intro E hE
 refine ww ?_
 exact vBz ⟨rfl,rfl⟩ rfl (.dat' (by rw [ho];show [[Dat.int .u8 _],[Dat.int .u8 _],[Dat.int .u8 _],[Dat.int .u8 _]]=_;exact congr (congrArg _ (congrArg (fun z=>[Dat.int .u8 z]) h3)) (congr (congrArg _ (congrArg (fun z=>[Dat.int .u8 z]) h2)) (congr (congrArg _ (congrArg (fun z=>[Dat.int .u8 z]) h1)) (congr (congrArg _ (congrArg (fun z=>[Dat.int .u8 z]) h0)) rfl))))) rfl rfl rfl rfl
theorem qUk (x:Int):Spec Tryz.prog 128 [.d (.int .i64 x)] [] (fun r h'=>r=.tup [.d (.sl 1 (qAl (if qDe x=true then qAu 4 x.toNat else []))),.d (.int .i64 (if qDe x=true then 0 else 10))]∧h'=[]):=by
 have hel:=qKx x
 have hoc:qDe x=true→Spec Tryz.prog 206 [.d (.int .i64 x)] [] (fun r h'=>r=.d (.sl 1 (qAl (qAu 4 x.toNat)))∧h'=[]):=fun h=>by
  have hr:=elemG_range h
  have:=qKw x.toNat (by omega)
  rw [Int.toNat_of_nonneg (by omega)] at this
  exact this
 generalize qAu 4 x.toNat=bs at hoc
 generalize qDe x=c at hel hoc
 refine qAb hT Tryz.func128 rfl rfl rfl rfl ?_;intro E hE
 refine ww ?_
 refine wwc hel ?_
 refine ww ?_
 refine qAa rfl (fun h1=>?_) (fun h1=>?_)
 ·obtain rfl:c=false:=by simpa using h1
  refine ww ?_
  exact wwr
 ·obtain rfl:c=true:=by simpa using h1
  have hoc:=hoc rfl
  refine ww ?_
  refine wwc hoc ?_
  refine ww ?_
  exact wwr
def qIj (key:Int):List UInt8×Int:=if qDe key=true then qEa 15 [.mk 4 (qAu 4 key.toNat) []] else ([],10)
theorem qXh (key:Int):Spec Tryz.prog 96 [.d (.int .i64 key)] [] (fun r h'=>r=.tup [.d (.sl 1 (qAl (qIj key).1)),.d (.int .i64 (qIj key).2)]∧h'=[]):=by
 have he:=qFu key
 have hlen:=octB_length 4 key.toNat
 have hw1:=wrL_one_le 4 (qAu 4 key.toNat) []
 have hw:=qGm 15 (by omega) [.mk 4 (qAu 4 key.toNat) []] (by simp) ⟨⟨by omega,by omega,by simp,trivial⟩,trivial⟩ (by simp [qAt,qCf]) (by simp only [wrL,List.length_nil] at hw1 ⊢;omega)
 unfold qIj
 generalize qDe key=c at he
 generalize qAu 4 key.toNat=bs at he hw
 generalize qEa 15 [.mk 4 bs []]=q at hw
 refine qAb hT Tryz.func96 rfl rfl rfl rfl ?_;intro E hE
 refine ww ?_
 refine wwc he ?_
 cases c
 ·refine ww ?_
  refine qAa rfl (fun h1=>?_) (fun h1=>?_)
  ·refine ww ?_
   exact wwr
  ·exact absurd h1 (by simp)
 ·refine ww ?_
  refine qAa rfl (fun h1=>?_) (fun h1=>?_)
  ·exact absurd h1 (by simp)
  ·refine ww ?_
   refine wwc hw ?_
   refine ww ?_
   exact wwr
end Tdoc
namespace Tdoc
open Go Go.Proofs
def bOf (n:Int):UInt8:=UInt8.ofNat (n % 256).toNat
theorem bOf_wrap (n:Int):IntKind.u8.wrap n=((bOf n).toNat:Int):=by
 rw [qCj];unfold bOf;rw [toNat_ofNat (by omega)];omega
theorem qXq (n:Int):Int.fdiv n (2 ^ (min (8:Int).toNat IntKind.i64.bits))=n / 256:=by
 rw [show (2 ^ (min (8:Int).toNat IntKind.i64.bits):Int)=256 from rfl,Int.fdiv_eq_ediv_of_nonneg _ (by omega)]
structure Tpl where
 kind:Int
 part:Int
 frm:Int
 til:Int
 fmt:Int
 qual:Int
 data:List UInt8
def vLh (t:Tpl):List Dat:=[.int .i64 t.kind,.int .i64 t.part,.int .i64 t.frm,.int .i64 t.til,.int .i64 t.fmt,.int .i64 t.qual,.sl 1 (qAl t.data)]
def qJf (l:List Tpl):List (List Dat):=l.map vLh
theorem encTs_length (l:List Tpl):(qJf l).length=l.length:=by simp [qJf]
theorem encTs_at {l:List Tpl} {i:Nat} (h:i < l.length):(qJf l)[((i:Int)).toNat]?=some (vLh l[i]):=by simp [qJf,h]
def qNc (t:Tpl):List AV:=[.d (.int .i64 t.kind),.d (.int .i64 t.part),.d (.int .i64 t.frm),.d (.int .i64 t.til),.d (.int .i64 t.fmt),.d (.int .i64 t.qual),.d (.sl 1 (qAl t.data))]
def tAV (t:Tpl):AV:=.agg (qNc t)
def qNm (k:Int):Int:=if k=2 then 10 else if k=3 then 2 else 0
def qMj (n:Int):Bool:=decide (0≤n∧n≤73048)
def qDm (t:Tpl):Int :=
 if t.kind≠1∧t.kind≠2∧t.kind≠3 then 14
 else if t.part < 0∨t.part > qNm t.kind∨(qNm t.kind > 0∧t.part=0) then 14
 else if qMj t.frm=false∨qMj t.til=false∨t.frm > t.til then 8
 else if t.fmt < 0∨t.fmt > 65535∨t.qual < 0∨t.qual > 100 then 3
 else if t.data.length < 1∨t.data.length > 1024 then 2 else 0
theorem validT_ok {t:Tpl} (h:qDm t=0):0≤t.frm∧t.frm≤73048∧0≤t.til∧t.til≤73048∧0≤t.fmt∧t.fmt≤65535∧0≤t.qual∧t.qual≤100∧0≤t.part∧t.part≤10∧1≤t.kind∧t.kind≤3∧1≤t.data.length∧t.data.length≤1024:=by
 unfold qDm at h
 split at h
 ·exact absurd h (by omega)
 split at h
 ·exact absurd h (by omega)
 split at h
 ·exact absurd h (by omega)
 split at h
 ·exact absurd h (by omega)
 split at h
 ·exact absurd h (by omega)
 rename_i h1 h2 h3 h4 h5
 have hm:qNm t.kind≤10:=by unfold qNm;split <;> (try split) <;> omega
 simp only [not_or,Bool.not_eq_false,qMj,decide_eq_true_eq] at h3
 omega
def qIc (t:Tpl):List Node:=[.mk 129 [bOf t.kind] [],.mk 130 [bOf t.part] [],.mk 131 (qAu 4 t.frm.toNat) [],.mk 132 (qAu 4 t.til.toNat) [],.mk 133 [bOf t.qual] [],.mk 136 [bOf (t.fmt / 256),bOf t.fmt] []]
def qJk (t:Tpl):Node:=.mk 32608 [] [.mk 161 [] (qIc t),.mk 24366 t.data []]
def qEy:List Tpl→Int
 | []=>0
 | t::l=>if qDm t≠0 then qDm t else qEy l
theorem firstT_mem:∀ {l:List Tpl},qEy l=0→∀ t∈l,qDm t=0
 | [],_,t,ht=>by cases ht
 | a::l,h,t,ht=>by
  rw [qEy] at h
  split at h
  ·rename_i h1;exact absurd h h1
  ·rename_i h1
   rcases List.mem_cons.1 ht with rfl | ht
   ·simpa using h1
   ·exact firstT_mem h t ht
def qMf (l:List Tpl):List Node:=.mk 2 [bOf (l.length:Int)] []::l.map qJk
def qJg (l:List Tpl):List Node×Int:=if l.length < 1∨l.length > 8 then ([],2) else if qEy l≠0 then ([],qEy l) else ([.mk 32609 [] (qMf l)],0)
def qWi (n:Int) (l:List Tpl):Bool:=l.all fun t=>decide (t.kind=n-1)
def vAi (n:Int) (l:List Tpl):List UInt8×Int :=
 if n < 2∨n > 4 then ([],3) else if (qJg l).2≠0 then ([],(qJg l).2) else if qWi n l=false then ([],14) else qEa n (qJg l).1
structure Inf where
 proto:Int
 ver:Int
 par:Int
 key:Int
 kid:Int
def vKx (x:Inf):List Dat:=[.int .i64 x.proto,.int .i64 x.ver,.int .i64 x.par,.int .i64 x.key,.int .i64 x.kid]
def qFm (l:List Inf):List (List Dat):=l.map vKx
theorem encFs_length (l:List Inf):(qFm l).length=l.length:=by simp [qFm]
theorem encFs_at {l:List Inf} {i:Nat} (h:i < l.length):(qFm l)[((i:Int)).toNat]?=some (vKx l[i]):=by simp [qFm,h]
def qQc (x:Inf):List AV:=[.d (.int .i64 x.proto),.d (.int .i64 x.ver),.d (.int .i64 x.par),.d (.int .i64 x.key),.d (.int .i64 x.kid)]
def vKk (p:Int):Int:=if p=2∨p=3 then 31 else 0
def vKq (p:Int):Int:=if p=4 then 255 else 0
def infE (x:Inf):Int :=
 if x.proto < 2∨x.proto > 6 then 14
 else if x.ver < 1∨x.ver > 255∨x.par < 0∨x.par > vKk x.proto∨x.kid < 0∨x.kid > vKq x.proto then 3
 else if (x.proto=4∧qDe x.key=false)∨(x.proto≠4∧x.key≠0) then 10 else 0
def vIx (p x:Inf):Bool:=decide (x.proto < p.proto∨(x.proto=p.proto∧x.kid≤p.kid))
def vBd:Option Inf→List Inf→Int
 | _,[]=>0
 | p,x::l=>if infE x≠0 then infE x else if (match p with | none=>false | some p=>vIx p x)=true then 17 else vBd (some x) l
theorem infL_nil (p:Option Inf):vBd p []=0:=by cases p <;> rfl
theorem infL_cons (p:Option Inf) (x:Inf) (l:List Inf):vBd p (x::l)=if infE x≠0 then infE x else if (match p with | none=>false | some p=>vIx p x)=true then 17 else vBd (some x) l:=by cases p <;> rfl
def validI (l:List Inf):Int:=if l.length > 16 then 2 else vBd none l
def idB (p:Int):List UInt8:=[4,0,127,0,7,2,2]++(if p=2 then [4,1] else if p=3 then [4,2] else if p=4 then [3,1] else if p=5 then [2,1] else [5,1])
def qKr (x:Inf):Node:=.mk 48 [] ([.mk 6 (idB x.proto) [],.mk 2 [bOf x.ver] []]++(if x.proto=2∨x.proto=3 then [.mk 2 [bOf x.par] []] else if x.proto=4 then [.mk 4 (qAu 4 x.key.toNat) [],.mk 2 [bOf x.kid] []] else []))
def qHi (l:List Inf):Node:=.mk 49 [] (l.map qKr)
def infosF (l:List Inf):List UInt8×Int:=if validI l≠0 then ([],validI l) else qEa 14 [qHi l]
def qOv (z:Zon):List UInt8×Int:=if validZ z≠0 then ([],validZ z) else qEa 1 [.mk 24351 (qCq z).flatten []]
theorem octB4_len (n:Nat):(qAu 4 n).length=4:=octB_length 4 n
theorem headT_fit (t:Tpl):qJx (qIc t)∧qAt (qIc t)=6:=by
 refine ⟨?_,by simp [qIc,qAt,qCf]⟩
 simp [qIc,qJx,vEw,octB4_len]
theorem objT_fit {t:Tpl} (h:t.data.length≤1000000):vEw (qJk t)∧qCf (qJk t)=9:=by
 have ⟨h1,h2⟩:=headT_fit t
 refine ⟨?_,by simp [qJk,qCf,qAt,h2]⟩
 exact ⟨by omega,by simp,by simp,⟨⟨by omega,by simp,by simp [qIc],h1⟩,⟨by omega,by omega,by simp,trivial⟩,trivial⟩⟩
theorem objTs_fit:∀ {l:List Tpl},(∀ t∈l,t.data.length≤1000000)→qJx (l.map qJk)∧qAt (l.map qJk)=9*l.length
 | [],_=>by simp [qJx,qAt]
 | t::l,h=>by
  have h1:=objT_fit (h t (by simp))
  have h2:=objTs_fit (l:=l) fun t ht=>h t (by simp [ht])
  rw [List.map_cons]
  exact ⟨⟨h1.1,h2.1⟩,by rw [qAt,h1.2,h2.2,List.length_cons];omega⟩
theorem encTR_fit (l:List Tpl):qJx (qJg l).1∧qAt (qJg l).1≤10000∧(qJg l).1.length≤1:=by
 unfold qJg
 split
 ·simp [qJx,qAt]
 split
 ·simp [qJx,qAt]
 rename_i h1 h2
 have h3:=objTs_fit (l:=l) fun t ht=>by have:=validT_ok (firstT_mem (by simpa using h2) t ht);omega
 have h4:(l.map qJk).length=l.length:=by simp
 simp only [qJx,vEw,qAt,qCf,qMf,h3.2,List.length_cons,h4]
 simp [h3.1]
 omega
theorem objI_fit (x:Inf):vEw (qKr x)∧qCf (qKr x)≤5:=by
 unfold qKr idB
 split
 ·split <;> (try split) <;> (try split) <;> (try split) <;> simp [vEw,qJx,qCf,qAt,octB4_len]
 ·split
  ·split <;> (try split) <;> (try split) <;> (try split) <;> simp [vEw,qJx,qCf,qAt,octB4_len]
  ·split <;> (try split) <;> (try split) <;> (try split) <;> simp [vEw,qJx,qCf,qAt,octB4_len]
theorem objIs_fit:∀ (l:List Inf),qJx (l.map qKr)∧qAt (l.map qKr)≤5*l.length
 | []=>by simp [qJx,qAt]
 | x::l=>by
  have h1:=objI_fit x
  have h2:=objIs_fit l
  rw [List.map_cons]
  exact ⟨⟨h1.1,h2.1⟩,by rw [qAt,List.length_cons];omega⟩
theorem setI_fit {l:List Inf} (h:l.length≤16):qJx [qHi l]∧qAt [qHi l]≤100:=by
 have h1:=objIs_fit l
 simp only [qHi,qJx,vEw,qAt,qCf]
 simp [h1.1]
 omega
end Tdoc
namespace Tdoc
open Go
def nbN (v:List UInt8):Nat:=v.foldl (fun n c=>256*n+c.toNat) 0
theorem nbN_snoc (v:List UInt8) (c:UInt8):nbN (v++[c])=256*nbN v+c.toNat:=by simp [nbN]
theorem nbN_lt:∀ (v:List UInt8),nbN v < 256 ^ v.length:=fun v=>by
 suffices h:∀ (v:List UInt8) (n:Nat),v.foldl (fun n c=>256*n+c.toNat) n < (n+1)*256 ^ v.length by
  have:=h v 0;simpa [nbN] using this
 intro v
 induction v with
 | nil=>intro n;simp
 | cons c v ih =>
  intro n
  have h1:=ih (256*n+c.toNat)
  have h2:=UInt8.toNat_lt c
  rw [List.foldl_cons,List.length_cons,Nat.pow_succ,Nat.mul_comm (256 ^ v.length) 256,← Nat.mul_assoc]
  exact Nat.lt_of_lt_of_le h1 (Nat.mul_le_mul_right _ (by omega))
def fldT:List (Int×Int):=[(129,1),(130,1),(131,4),(132,4),(133,1),(136,2)]
end Tdoc
namespace Tdoc
open Go Go.Proofs
end Tdoc
namespace Tdoc
open Go Go.Proofs
theorem loopX_sub {f g:Rd} {e:Nat} (h:∀ p c,(f p c).2.1=0→g p c=f p c):∀ (m p c:Nat) (out:List Node),(qEh f e m p c out).2.1=0→qEh g e m p c out=qEh f e m p c out
 | 0,p,c,out,_=>rfl
 | m+1,p,c,out,h0=>by
  rw [qEh] at h0 ⊢
  rw [qEh]
  by_cases hp:p < e
  ·rw [if_pos hp] at h0 ⊢
   rw [if_pos hp]
   by_cases hf:(f p c).2.1=0
   ·rw [h p c hf]
    rw [if_neg (by simp [hf])] at h0 ⊢
    rw [if_neg (by simp [hf])]
    exact loopX_sub h m _ _ _ h0
   ·rw [if_pos hf] at h0
    exact absurd h0 hf
  ·rw [if_neg hp,if_neg hp]
theorem lenX_loose {b:List UInt8} {e q:Nat} (op:Bool) (h:(qOu b e false true q).2.1=0):qOu b e op false q=qOu b e false true q∧(qOu b e false true q).1≠-1:=by
 unfold qOu at h ⊢
 generalize qWc b (q+1) (qAq b q % 16) 0=nb at *
 generalize 2 ^ (8*(qAq b q % 16-1))=pw at *
 generalize qAq b q=x at *
 by_cases h1:e≤q
 ·simp [h1] at h
 by_cases h2:x < 128
 ·simp [h1,h2]
 by_cases h3:132 < x
 ·simp [h1,h2,h3] at h
 by_cases h4:x=128
 ·simp [h1,h2,h4] at h
 by_cases h5:e < q+1+x % 16
 ·simp [h1,h2,h3,h4,h5] at h
 by_cases h6:nb < 128∨nb / pw=0
 ·simp only [h1,h2,h3,h4,h5,h6,if_true,if_false,false_and,or_false,and_self] at h
  exact absurd h (by simp)
 ·simp only [h1,h2,h3,h4,h5,h6,if_true,if_false,false_and,or_false,and_false,Bool.false_eq_true]
  exact ⟨trivial,by omega⟩
theorem objY_sub {b:List UInt8} {g g':Nat→Rd} {e d:Nat} {t:Int} {n:Int×Int×Nat} {c:Nat} (hg:∀ e p c,(g e p c).2.1=0→g' e p c=g e p c) (hn:n.1≠-1) (h:(vEs b g e d t n c).2.1=0):vEs b g' e d t n c=vEs b g e d t n c:=by
 unfold vEs at h ⊢
 split
 ·rfl
 split
 ·rfl
 split
 ·rfl
 split
 ·rfl
 rename_i g0 g1 g2 g3
 simp only [if_neg g0,if_neg g1,if_neg g2,if_neg g3,if_neg hn] at h ⊢
 split
 ·rename_i hc
  simp only [if_pos hc] at h
  rw [loopX_sub (fun p c hf=>hg _ p c hf) _ _ _ _ h]
 ·rfl
theorem objX_sub (b:List UInt8):∀ (k e d p c:Nat),(qMt b true k e d p c).2.1=0→qMt b false k e d p c=qMt b true k e d p c
 | 0,e,d,p,c,h=>rfl
 | k+1,e,d,p,c,h=>by
  rw [qMt] at h
  rw [qMt,qMt]
  by_cases ht:(qJr b e p).2.1≠0
  ·rw [if_pos ht,if_pos ht]
  rw [if_neg ht] at h
  rw [if_neg ht,if_neg ht]
  rw [Bool.not_true,Bool.and_false] at h ⊢
  rw [Bool.not_false,Bool.and_true]
  by_cases hl:(qOu b e false true (qJr b e p).2.2).2.1=0
  ·obtain ⟨h1,h2⟩:=lenX_loose (qBd (qJr b e p).1) hl
   rw [h1]
   exact objY_sub (fun e' p c hf=>objX_sub b k e' (d+1) p c hf) h2 h
  ·unfold vEs at h
   rw [if_pos hl] at h
   exact absurd h hl
theorem parseX_sub {b:List UInt8} (h:(qEf b true).2=0):qEf b false=qEf b true:=by
 unfold qEf at h ⊢
 split
 ·rfl
 ·rename_i hb
  rw [if_neg hb] at h
  rw [loopX_sub (fun p c hf=>objX_sub b 9 _ _ p c hf) _ _ _ _ h]
theorem chkL_of {d:Nat}:∀ {l:List Node} {c:Nat},(∀ n,n∈l→(qGc d n 0).1=0)→(qDt d l c).1=0
 | [],_,_=>rfl
 | a::l,c,h=>by
  rw [qDt,if_pos (by rw [chkN_any d a c 0];exact h a (by simp))]
  exact chkL_of fun n hn=>h n (by simp [hn])
theorem tagX_inv {b:List UInt8} {e p:Nat} (h:(qJr b e p).2.1=0):p < (qJr b e p).2.2∧qCs (qJr b e p).1=true:=by
 unfold qJr at h ⊢
 split at h
 ·exact absurd h (by simp)
 ·rename_i h1
  rw [if_neg h1]
  split at h
  ·rename_i h2
   rw [if_pos h2]
   split at h
   ·exact absurd h (by simp)
   ·rename_i h3
    rw [if_neg h3]
    split at h
    ·rename_i h4
     rw [if_pos h4]
     exact ⟨by simp only;omega,h4⟩
    ·exact absurd h (by simp)
  ·rename_i h2
   rw [if_neg h2]
   split at h
   ·rename_i h4
    rw [if_pos h4]
    exact ⟨by simp only;omega,h4⟩
   ·exact absurd h (by simp)
end Tdoc
namespace Tdoc
open Go Go.Proofs
end Tdoc
namespace Tdoc
open Go Go.Proofs
theorem qUo (v:List UInt8) (h7:v.length≤7):Spec Tryz.prog 304 [.d (.sl 1 (qAl v))] [] (fun r h'=>r=.tup [.d (.int .i64 ((nbN v:Nat):Int)),.d (.int .i64 0)]∧h'=[]):=by
 have hl:=encB_length v
 refine qAb hT Tryz.func304 rfl rfl rfl rfl ?_;intro E hE
 refine ww ?_
 refine qAa rfl (fun c1=>?_) (fun c1=>?_)
 ·exfalso;rw [hl] at c1;simp at c1;omega
 refine ww ?_
 refine qAp (ι:=Nat) (fun i=>[(0,.d (.sl 1 (qAl v))),(4,.d (.int .i64 ((nbN (v.take i):Nat):Int))),(5,.d (.int .i64 (i:Int)))]) (fun _=>[]) (fun i=>i≤v.length) (fun i=>v.length-i) 0 (by omega) ⟨.refl _,.refl _,.refl _,trivial⟩ (HLe.refl _) ?_
 intro i hi
 have hwr:IntKind.i64.wrap ((i:Int)+1)=((i+1:Nat):Int):=by rw [qAf (by omega)];simp
 refine ww ?_
 refine qAa rfl (fun c2=>?_) (fun c2=>?_)
 ·have c2':i < v.length:=by rw [hl] at c2;simpa using c2
  have hel:(qAl v)[((i:Int)).toNat]?=some [.int .u8 (v[i].toNat:Int)]:=by simp [qAl,c2']
  have htk:nbN (v.take (i+1))=256*nbN (v.take i)+v[i].toNat:=by rw [List.take_succ_eq_append_getElem c2',nbN_snoc]
  have hlt:nbN (v.take i) < 256 ^ 6:=Nat.lt_of_lt_of_le (nbN_lt _) (Nat.pow_le_pow_right (by omega) (by rw [List.length_take];omega))
  have h6:(256:Nat) ^ 6=281474976710656:=by decide
  rw [h6] at hlt
  have hc:=UInt8.toNat_lt v[i]
  generalize v[i]=c at hel htk hc
  generalize nbN (v.take i)=n at htk hlt
  have hw1:IntKind.i64.wrap (IntKind.i64.wrap (256*(n:Int))+IntKind.i64.wrap (c.toNat:Int))=((256*n+c.toNat:Nat):Int):=by
   rw [qAf (n:=256*(n:Int)) (by omega),qAf (n:=(c.toNat:Int)) (by omega),qAf (by omega)];omega
  refine ww ?_
  refine wwi hel ?_
  refine ww ?_
  exact ⟨i+1,by omega,by omega,⟨.refl _,.int (by rw [htk];exact hw1),.int hwr,trivial⟩,HLe.refl _⟩
 ·have c2':i=v.length:=by rw [hl] at c2;simp at c2;omega
  subst c2'
  rw [List.take_length]
  refine ww ?_
  exact wwr
end Tdoc
namespace Tdoc
open Go Go.Proofs
def At (b:List UInt8) (e p:Nat) (s:List UInt8):Prop:=p+s.length≤e∧∀ i,i < s.length→qAq b (p+i)=(s.getD i 0).toNat
theorem At.left {b:List UInt8} {e p:Nat} {s r:List UInt8} (h:At b e p (s++r)):At b e p s:=by
 obtain ⟨h1,h2⟩:=h
 rw [List.length_append] at h1 h2
 refine ⟨by omega,fun i hi=>?_⟩
 rw [h2 i (by omega),List.getD_eq_getElem?_getD,List.getD_eq_getElem?_getD,List.getElem?_append_left hi]
theorem At.right {b:List UInt8} {e p:Nat} {s r:List UInt8} (h:At b e p (s++r)):At b e (p+s.length) r:=by
 obtain ⟨h1,h2⟩:=h
 rw [List.length_append] at h1 h2
 refine ⟨by omega,fun i hi=>?_⟩
 rw [Nat.add_assoc,h2 _ (by omega),List.getD_eq_getElem?_getD,List.getD_eq_getElem?_getD,List.getElem?_append_right (by omega),Nat.add_sub_cancel_left]
theorem At.head {b:List UInt8} {e p:Nat} {x:UInt8} {r:List UInt8} (h:At b e p (x::r)):qAq b p=x.toNat∧p < e∧At b e (p+1) r:=by
 obtain ⟨h1,h2⟩:=h
 simp only [List.length_cons] at h1 h2
 refine ⟨by simpa using h2 0 (by omega),by omega,by omega,fun i hi=>?_⟩
 have:=h2 (i+1) (by omega)
 rw [Nat.add_comm i 1,← Nat.add_assoc] at this
 rw [this,Nat.add_comm 1 i];rfl
theorem At.mono {b:List UInt8} {e e' p:Nat} {s:List UInt8} (h:At b e p s) (he:p+s.length≤e'):At b e' p s:=⟨he,h.2⟩
theorem At.whole (b:List UInt8):At b b.length 0 b:=⟨by omega,fun i hi=>by unfold qAq;rw [Nat.zero_add]⟩
theorem At.cut {b:List UInt8} {e p:Nat} {s:List UInt8} (h:At b e p s) (he:e≤b.length):(b.drop p).take s.length=s:=by
 obtain ⟨h1,h2⟩:=h
 apply List.ext_getElem
 ·simp;omega
 ·intro i h3 h4
  have:=h2 i h4
  unfold qAq at this
  rw [List.getD_eq_getElem?_getD,List.getElem?_eq_getElem (by omega),List.getD_eq_getElem?_getD,List.getElem?_eq_getElem h4] at this
  simp only [Option.getD_some] at this
  simp only [List.getElem_take,List.getElem_drop]
  exact UInt8.toNat_inj.1 this
theorem toNat_mod (n:Nat):(UInt8.ofNat n).toNat=n % 256:=by simp
theorem tagX_at {b:List UInt8} {e p:Nat} {t:Int} (ht:qCs t=true) (h:At b e p (qLe t)):qJr b e p=(t,0,p+(qLe t).length)∧qAq b p≠0:=by
 have hr:=tagOk_range ht
 unfold qLe at h ⊢
 by_cases h1:t > 255
 ·rw [if_pos h1] at h ⊢
  obtain ⟨a1,a2,a3⟩:=h.head
  obtain ⟨b1,b2,b3⟩:=a3.head
  rw [toNat_mod] at a1 b1
  have hh:qCs t=true:=ht
  unfold qCs at hh
  rw [if_neg (by omega)] at hh
  simp only [Bool.and_eq_true,decide_eq_true_eq,beq_iff_eq] at hh
  have e1:qAq b p=(t / 256).toNat:=by rw [a1];omega
  have e2:qAq b (p+1)=(t % 256).toNat:=by rw [b1];omega
  have e3:((qAq b p*256+qAq b (p+1):Nat):Int)=t:=by rw [e1,e2];omega
  refine ⟨?_,by omega⟩
  unfold qJr
  rw [if_neg (by omega),if_pos (by omega),if_neg (by omega),e3,if_pos ht]
  rfl
 ·rw [if_neg h1] at h ⊢
  obtain ⟨a1,a2,a3⟩:=h.head
  rw [toNat_mod] at a1
  have hh:qCs t=true:=ht
  unfold qCs at hh
  rw [if_pos (by omega)] at hh
  simp only [Bool.and_eq_true,decide_eq_true_eq,Bool.not_eq_true',beq_eq_false_iff_ne] at hh
  have e1:qAq b p=t.toNat:=by rw [a1];omega
  have e3:((qAq b p:Nat):Int)=t:=by rw [e1];omega
  refine ⟨?_,by omega⟩
  unfold qJr
  rw [if_neg (by omega),if_neg (by omega),e3,if_pos ht]
  rfl
inductive Steps (b:List UInt8) (f:Rd) (e:Nat):Nat→Nat→List Node→Nat→Nat→Prop where
 | nil (p c:Nat):Steps b f e p c [] p c
 | cons {p c p1 c1 p2 c2:Nat} {n:Node} {l:List Node}:p < e→qAq b p≠0→f p c=(n,0,p1,c1)→Steps b f e p1 c1 l p2 c2→Steps b f e p c (n::l) p2 c2
theorem Steps.loop {b:List UInt8} {f:Rd} {e p c:Nat} {l:List Node} {p2 c2:Nat} (h:Steps b f e p c l p2 c2) (h2:p2=e):∀ (m:Nat) (out:List Node),l.length < m→qEh f e m p c out=(out++l,0,e,c2):=by
 induction h with
 | nil p c =>
  intro m out hm
  obtain ⟨m,rfl⟩:∃ k,m=k+1:=⟨m-1,by omega⟩
  rw [qEh,if_neg (by omega),List.append_nil,h2]
 | cons h1 h3 h4 h5 ih =>
  intro m out hm
  obtain ⟨m,rfl⟩:∃ k,m=k+1:=⟨m-1,by omega⟩
  rw [qEh,if_pos h1,h4,if_neg (by simp)]
  simp only
  rw [ih h2 m _ (by simp only [List.length_cons] at hm;omega),List.append_assoc]
  rfl
theorem Steps.len {b:List UInt8} {f:Rd} {e p c:Nat} {l:List Node} {p2 c2:Nat} (hf:RdOk f e) (h:Steps b f e p c l p2 c2) (hp:p≤e) (hc:c≤256):p+l.length≤p2∧p2≤e:=by
 induction h with
 | nil p c=>exact ⟨by simp,hp⟩
 | cons h1 h3 h4 h5 ih =>
  have:=hf _ _ hp hc
  rw [h4] at this
  simp only at this
  obtain ⟨i1,i2⟩:=ih this.2.1 (this.2.2.2 trivial).2
  have:=(this.2.2.2 trivial).1
  exact ⟨by simp only [List.length_cons];omega,i2⟩
theorem chkN_inv {d:Nat} {t:Int} {v:List UInt8} {k:List Node} {c:Nat} (h:(qGc d (.mk t v k) c).1=0):qCs t=true∧(qBd t=false→k=[])∧(qBd t=true→v=[])∧d≤8∧(qDt (d+1) k (c+1)).1=0:=by
 rw [qGc] at h
 split at h
 ·exact absurd h (by simp)
 rename_i h1
 split at h
 ·exact absurd h (by simp)
 rename_i h2
 split at h
 ·exact absurd h (by simp)
 rename_i h3
 refine ⟨by simpa using h1,fun hc=>?_,fun hc=>?_,by omega,h⟩
 ·simp [hc] at h2;exact h2
 ·simp [hc] at h2;exact h2
theorem chkL_inv {d:Nat} {a:Node} {l:List Node} {c:Nat} (h:(qDt d (a::l) c).1=0):(qGc d a c).1=0∧(qDt d l 0).1=0:=by
 rw [qDt] at h
 split at h
 ·rename_i h1
  exact ⟨h1,by rw [chkL_any d l 0 _];exact h⟩
 ·rename_i h1;exact absurd h h1
end Tdoc
namespace Tdoc
open Go Go.Proofs
end Tdoc
namespace Tdoc
open Go Go.Proofs
end Tdoc
namespace Tdoc
open Go Go.Proofs
end Tdoc
namespace Tdoc
open Go Go.Proofs
theorem strAt_bI {s:List UInt8} {i:Nat} (h:i < s.length):qDk s (i:Int)=bI s[i]:=strAt_get h
theorem qTt {α:Type} {s:List α} {i:Nat} (h:i < s.length):s.drop i=s[i]::s.drop (i+1):=by simp
theorem wgtC_at (i:Nat):([AV.d (.int .i64 7),.d (.int .i64 3),.d (.int .i64 1)]:List AV)[(Int.tmod (i:Int) 3).toNat]?=some (.d (.int .i64 (qVb i))):=by
 rw [show Int.tmod (i:Int) 3=((i % 3:Nat):Int) from Int.ofNat_tmod i 3,Int.toNat_natCast]
 unfold qVb
 have:i % 3=0∨i % 3=1∨i % 3=2:=by omega
 rcases this with h | h | h <;> rw [h] <;> rfl
theorem wgtC_range (i:Nat):1≤qVb i∧qVb i≤7:=by unfold qVb;split <;> (try split) <;> omega
theorem digSum_snoc:∀ (i:Nat) (s:List UInt8) (c:UInt8),qDh i (s++[c])=qDh i s+qVb (i+s.length)*qQo (bI c)
 | i,[],c=>by simp [qDh]
 | i,x::s,c=>by
  rw [List.cons_append,qDh,qDh,digSum_snoc (i+1) s c,List.length_cons]
  rw [show i+1+s.length=i+(s.length+1) by omega];omega
theorem validS_take:∀ (s:List UInt8) (i:Nat),qAs s=true→qAs (s.take i)=true
 | [],i,h=>by simp [qAs]
 | c::s,0,h=>rfl
 | c::s,i+1,h=>by
  simp only [qAs,Bool.and_eq_true,List.take_succ_cons] at h ⊢
  exact ⟨h.1,validS_take s i h.2⟩
theorem validS_at:∀ {s:List UInt8} {c:UInt8},qAs s=true→c∈s→0≤qQo (bI c)
 | x::s,c,h,hm=>by
  simp only [qAs,Bool.and_eq_true,decide_eq_true_eq] at h
  rcases List.mem_cons.1 hm with rfl | hm
  ·exact h.1
  ·exact validS_at h.2 hm
end Tdoc
namespace Tdoc
open Go Go.Proofs
theorem fillS_length (s:List UInt8):(qMh s).length=s.length:=by simp [qMh]
end Tdoc
namespace Tdoc
open Go Go.Proofs
end Tdoc
namespace Tdoc
open Go Go.Proofs
end Tdoc
namespace Tdoc
open Go Go.Proofs
end Tdoc
namespace Tdoc
open Go Go.Proofs
end Tdoc
