/- The texts XE XF YA YB H2 XQ XR Z7 XS Z8 Z9 ZA XT XU XW NA ZB XX NB NC ND XY NE NF NG NH NJ NI: each says at its head what it shows. Part 4 of the proof; no conditions beyond the theorems' own. -/
import Derived.Test.YtnjanpmgonoeeaaGreatDoorKY3
import Derived.Lib.TrimByte
import Derived.Lib.Replace
import Derived.Lib.CutLaws
import Derived.Shelf.Strings.Builder1
import Derived.Shelf.Strings.Builder2
import Derived.Shelf.Strings.Trim
import Derived.Shelf.Small.Utf8
import Derived.Shelf.Small.Strs
import Derived.Shelf.Strings.BuilderF
import Derived.Shelf.Strings.Search1
import Derived.Shelf.Strings.Search2
import Derived.Shelf.Strings.Search3
import Derived.Shelf.Strings.Cut
import Derived.Shelf.Strings.Count
import Derived.Shelf.LaysM
import Derived.Shelf.Strings.Shaped
import Derived.Shelf.Strings.Prefix
import Derived.Shelf.Strings.Split
import Derived.Shelf.Strings.Replace
import Derived.Shelf.Strings.SplitShaped
import Derived.Shelf.Strings.Runes
import Derived.Shelf.Strings.AsciiSet
import Derived.Shelf.Bits.Mul64
import Derived.Shelf.Strings.Repeat
import Derived.Shelf.Unicode.DecodeSlow
import Derived.Shelf.Bytes.SlEqualAll
import Derived.Shelf.Bytes.Small
import Derived.Test.YtnjanpmgonoeeaaGreatDoorProg
import Derived.Test.YtnjanpmgonoeeaaGreatDoorKY2
import Derived.Shelf.Strings.SlTrimAscii
set_option maxHeartbeats 8000000
set_option maxRecDepth 100000
set_option linter.unusedVariables false
set_option linter.unusedSimpArgs false
namespace Tdoc
open Go Go.Proofs
theorem template_spec (x:Node) (hw:wgtN x≤1000000):Spec Tryz.prog 158 [nAV x] [] (fun r h'=>∃ y:Tpl×Bool,TplX x y∧r=.tup [tAV y.1,.d (.bool y.2)]∧h'=[]):=by
 obtain ⟨t,v,k⟩:=x
 rw [nAV_eq]
 have hI0:=is_spec (.mk t v k) 32608 (by decide)
 rw [nAV_eq] at hI0
 have hkl:=qAm k
 have hlk:=len_wgt k
 have hkk:k.length≤1000000:=by rw [wgtN] at hw;omega
 by_cases hk2:k.length=2
 case neg =>
  have hn:(!isF (.mk t v k) 32608||(((encNs k).length:Int) != 2))=true:=by rw [hkl];simp;right;omega
  have hdec:decT (.mk t v k)=none:=decT_n1 (by
   rw [consF_split t 32608 2 v k (by decide) rfl,show ((k.length:Int) == 2)=false from by simp;omega,Bool.and_false])
  generalize isF (.mk t v k) 32608=b0 at hI0 hn
  refine qAb hT Tryz.func158 rfl rfl rfl rfl ?_;intro E hE
  refine qAo ?_
  refine wwe ?_
  refine qAu (qAn ?_)
  refine qAd (qCg (i0:=0) rfl rfl rfl) rfl ?_
  refine ww ?_
  refine wwc hI0 ?_
  refine wwk hn ?_
  refine qAa rfl (fun c1=>?_) (fun c1=>?_)
  ·refine ww ?_
   exact rq ⟨(⟨0,0,0,0,0,0,[]⟩,false),.none hdec,rfl,rfl⟩ rfl (AV.le.tup ⟨AV.le.agg ⟨.refl _,.refl _,.refl _,.refl _,.refl _,.refl _,AV.le.dat,trivial⟩,.refl _,trivial⟩)
  ·exact absurd c1 (by rw [hn];simp)
 obtain ⟨th,vh,kh,td,vd,kd,rfl⟩:∃ th vh kh td vd kd,k=[.mk th vh kh,.mk td vd kd]:=match k,hk2 with
  | [.mk th vh kh,.mk td vd kd],_=>⟨th,vh,kh,td,vd,kd,rfl⟩
 have hI1:=is_spec (.mk th vh kh) 161 (by decide)
 have hI2:=is_spec (.mk td vd kd) 24366 (by decide)
 rw [nAV_eq] at hI1 hI2
 have hz:(((encNs [.mk th vh kh,.mk td vd kd]).length:Int) != 2)=false:=rfl
 have hel0:(encNs [.mk th vh kh,.mk td vd kd])[((0:Int)).toNat]?=some [.int .i64 th,.sl 1 (encB vh),.sl 3 (encNs kh)]:=rfl
 have hel1:(encNs [.mk th vh kh,.mk td vd kd])[((1:Int)).toNat]?=some [.int .i64 td,.sl 1 (encB vd),.sl 3 (encNs kd)]:=rfl
 have hvd:vd.length≤1000000:=by simp only [wgtN,wgtL] at hw;omega
 have hwk:wgtL kh≤1000000:=by simp only [wgtN,wgtL] at hw;omega
 have hkm:∀ x∈kh,(valN x).length≤1000000:=fun x hx=>by
  have:=wgt_mem hx
  obtain ⟨tx,vx,kx⟩:=x
  rw [wgtN] at this;simp only [valN];omega
 have hkhl:=qAm kh
 have hlkh:=len_wgt kh
 have hCl:=CloneB_spec (encB vd) (by rw [qAl];omega)
 have hF:=fields_spec
 have hsp:=decT_split t v th vh kh td vd kd
 have hfi:=@tpl_fin t v th vh kh td vd kd
 generalize isF (.mk t v [.mk th vh kh,.mk td vd kd]) 32608=b0 at hI0 hsp hfi
 generalize isF (.mk th vh kh) 161=b1 at hI1 hsp hfi
 generalize isF (.mk td vd kd) 24366=b2 at hI2 hsp hfi
 refine qAb hT Tryz.func158 rfl rfl rfl rfl ?_;intro E hE
 refine qAo ?_
 refine wwe ?_
 refine qAu (qAn ?_)
 refine qAd (qCg (i0:=0) rfl rfl rfl) rfl ?_
 refine ww ?_
 refine wwc hI0 ?_
 refine ww ?_
 refine wwgi hel0 ?_
 refine ww ?_
 refine wwgc hI1 ?_
 refine ww ?_
 refine wwgi hel1 ?_
 refine ww ?_
 refine wwgc hI2 ?_
 refine ww ?_
 refine qAa rfl (fun c1=>?_) (fun c1=>?_)
 ·have hdec:decT (.mk t v [.mk th vh kh,.mk td vd kd])=none:=by
   rw [hsp,if_neg]
   intro hh
   simp only [Bool.and_eq_true] at hh
   rw [hz,hh.1.1.1,hh.1.1.2,hh.1.2] at c1
   exact absurd c1 (by simp)
  refine ww ?_
  exact rq ⟨(⟨0,0,0,0,0,0,[]⟩,false),.none hdec,rfl,rfl⟩ rfl (AV.le.tup ⟨AV.le.agg ⟨.refl _,.refl _,.refl _,.refl _,.refl _,.refl _,AV.le.dat,trivial⟩,.refl _,trivial⟩)
 have hb:(b0&&b1&&b2)=true:=by
  rw [hz] at c1
  cases b0 <;> cases b1 <;> cases b2 <;> simp at c1 ⊢
 clear c1
 refine ww ?_
 refine wwi hel0 ?_
 refine ww ?_
 refine wwc hF ?_
 refine ww ?_
 refine qAa rfl (fun c2=>?_) (fun c2=>?_)
 ·have h6:¬ (kh.length:Int)=6:=by
   rw [hkhl,show ((fieldsE.length:Nat):Int)=6 from rfl] at c2
   simpa using c2
  have hdec:decT (.mk t v [.mk th vh kh,.mk td vd kd])=none:=by
   rw [hsp,if_neg]
   intro hh
   simp only [Bool.and_eq_true,beq_iff_eq] at hh
   exact h6 hh.2
  refine ww ?_
  exact rq ⟨(⟨0,0,0,0,0,0,[]⟩,false),.none hdec,rfl,rfl⟩ rfl (AV.le.tup ⟨AV.le.agg ⟨.refl _,.refl _,.refl _,.refl _,.refl _,.refl _,AV.le.dat,trivial⟩,.refl _,trivial⟩)
 have h6:kh.length=6:=by
  rw [hkhl,show ((fieldsE.length:Nat):Int)=6 from rfl] at c2
  have:(kh.length:Int)=6:=by simpa using c2
  omega
 have hfi:=fun p1 p2 p3 p4 p5 p6=>hfi (p1:=p1) (p2:=p2) (p3:=p3) (p4:=p4) (p5:=p5) (p6:=p6) h6 hb
 have hN:=nextI_spec t v th vh kh [.mk td vd kd]
 have hN1:=hN kh true h6 (by omega) hkm
 have hl1:=nxI_len kh true
 obtain ⟨p1,e1⟩:∃ p,nxI kh true=p:=⟨_,rfl⟩
 rw [e1] at hN1 hl1
 have hN2:=hN p1.2.1 p1.2.2 h6 (by omega) (fun x hx=>hkm x (hl1.2.2 x hx))
 have hl2:=nxI_len p1.2.1 p1.2.2
 obtain ⟨p2,e2⟩:∃ p,nxI p1.2.1 p1.2.2=p:=⟨_,rfl⟩
 rw [e2] at hN2 hl2
 have hm2:=fun x hx=>hl1.2.2 x (hl2.2.2 x hx)
 have hN3:=hN p2.2.1 p2.2.2 h6 (by omega) (fun x hx=>hkm x (hm2 x hx))
 have hl3:=nxI_len p2.2.1 p2.2.2
 obtain ⟨p3,e3⟩:∃ p,nxI p2.2.1 p2.2.2=p:=⟨_,rfl⟩
 rw [e3] at hN3 hl3
 have hm3:=fun x hx=>hm2 x (hl3.2.2 x hx)
 have hN4:=hN p3.2.1 p3.2.2 h6 (by omega) (fun x hx=>hkm x (hm3 x hx))
 have hl4:=nxI_len p3.2.1 p3.2.2
 obtain ⟨p4,e4⟩:∃ p,nxI p3.2.1 p3.2.2=p:=⟨_,rfl⟩
 rw [e4] at hN4 hl4
 have hm4:=fun x hx=>hm3 x (hl4.2.2 x hx)
 have hN5:=hN p4.2.1 p4.2.2 h6 (by omega) (fun x hx=>hkm x (hm4 x hx))
 have hl5:=nxI_len p4.2.1 p4.2.2
 obtain ⟨p5,e5⟩:∃ p,nxI p4.2.1 p4.2.2=p:=⟨_,rfl⟩
 rw [e5] at hN5 hl5
 have hm5:=fun x hx=>hm4 x (hl5.2.2 x hx)
 have hN6:=hN p5.2.1 p5.2.2 h6 (by omega) (fun x hx=>hkm x (hm5 x hx))
 obtain ⟨p6,e6⟩:∃ p,nxI p5.2.1 p5.2.2=p:=⟨_,rfl⟩
 rw [e6] at hN6
 have hfi:=hfi p1 p2 p3 p4 p5 p6 e1 e2 e3 e4 e5 e6
 clear e1 e2 e3 e4 e5 e6 hl1 hl2 hl3 hl4 hl5 hm2 hm3 hm4 hm5 hN hkm hsp
 refine ww ?_
 refine qAd (callS1 (H':=[.row [.d (.int .i64 t),.d (.sl 1 (encB v)),.d (.sl 3 (encNs [.mk th vh kh,.mk td vd kd]))],.row [.d (.int .i64 0),.d (.int .i64 0),.d (.int .i64 0),.d (.int .i64 0),.d (.int .i64 0),.d (.int .i64 0),.sl 1 [] .full],.row [.d (.sl 3 (encNs p1.2.1))],.row [.d (.bool p1.2.2)]]) rfl rfl hN1 [0,2,3] (by decide) rfl rfl rfl rfl rfl rfl rfl) rfl ?_
 refine ww ?_
 refine qAd (callS1 (H':=[.row [.d (.int .i64 t),.d (.sl 1 (encB v)),.d (.sl 3 (encNs [.mk th vh kh,.mk td vd kd]))],.row [.d (.int .i64 0),.d (.int .i64 0),.d (.int .i64 0),.d (.int .i64 0),.d (.int .i64 0),.d (.int .i64 0),.sl 1 [] .full],.row [.d (.sl 3 (encNs p2.2.1))],.row [.d (.bool p2.2.2)]]) rfl rfl hN2 [0,2,3] (by decide) rfl rfl rfl rfl rfl rfl rfl) rfl ?_
 refine ww ?_
 refine qAd (callS1 (H':=[.row [.d (.int .i64 t),.d (.sl 1 (encB v)),.d (.sl 3 (encNs [.mk th vh kh,.mk td vd kd]))],.row [.d (.int .i64 0),.d (.int .i64 0),.d (.int .i64 0),.d (.int .i64 0),.d (.int .i64 0),.d (.int .i64 0),.sl 1 [] .full],.row [.d (.sl 3 (encNs p3.2.1))],.row [.d (.bool p3.2.2)]]) rfl rfl hN3 [0,2,3] (by decide) rfl rfl rfl rfl rfl rfl rfl) rfl ?_
 refine ww ?_
 refine qAd (callS1 (H':=[.row [.d (.int .i64 t),.d (.sl 1 (encB v)),.d (.sl 3 (encNs [.mk th vh kh,.mk td vd kd]))],.row [.d (.int .i64 0),.d (.int .i64 0),.d (.int .i64 0),.d (.int .i64 0),.d (.int .i64 0),.d (.int .i64 0),.sl 1 [] .full],.row [.d (.sl 3 (encNs p4.2.1))],.row [.d (.bool p4.2.2)]]) rfl rfl hN4 [0,2,3] (by decide) rfl rfl rfl rfl rfl rfl rfl) rfl ?_
 refine ww ?_
 refine qAd (callS1 (H':=[.row [.d (.int .i64 t),.d (.sl 1 (encB v)),.d (.sl 3 (encNs [.mk th vh kh,.mk td vd kd]))],.row [.d (.int .i64 0),.d (.int .i64 0),.d (.int .i64 0),.d (.int .i64 0),.d (.int .i64 0),.d (.int .i64 0),.sl 1 [] .full],.row [.d (.sl 3 (encNs p5.2.1))],.row [.d (.bool p5.2.2)]]) rfl rfl hN5 [0,2,3] (by decide) rfl rfl rfl rfl rfl rfl rfl) rfl ?_
 refine ww ?_
 refine qAd (callS1 (H':=[.row [.d (.int .i64 t),.d (.sl 1 (encB v)),.d (.sl 3 (encNs [.mk th vh kh,.mk td vd kd]))],.row [.d (.int .i64 0),.d (.int .i64 0),.d (.int .i64 0),.d (.int .i64 0),.d (.int .i64 0),.d (.int .i64 0),.sl 1 [] .full],.row [.d (.sl 3 (encNs p6.2.1))],.row [.d (.bool p6.2.2)]]) rfl rfl hN6 [0,2,3] (by decide) rfl rfl rfl rfl rfl rfl rfl) rfl ?_
 refine ww ?_
 refine wwi hel1 ?_
 refine ww ?_
 refine wwc hCl ?_
 refine wwn ?_
 refine qBg (fun i=>bif Nat.beq i 0 then [4] else bif Nat.beq i 1 then [3] else bif Nat.beq i 2 then [1] else []) (fun i=>bif Nat.beq i 2 then [1] else []) mixed (by kernel_rfl) ?_
 refine wwg ?_
 refine ww ?_
 exact rq ⟨_,hfi,rfl,rfl⟩ rfl (.refl _)
end Tdoc
namespace Tdoc
open Go Go.Proofs
def chkTs (l:List Tpl):Int:=if l.length < 1∨l.length > 8 then 2 else firstT l
theorem chkTs_eq (l:List Tpl):(encTR l).2=chkTs l:=by
 unfold encTR chkTs
 split
 ·rfl
 split
 ·rfl
 ·rename_i h;simp only;omega
theorem checkT_spec (l:List Tpl) (hl:l.length≤1000000):Spec Tryz.prog 128 [.d (.sl 7 (encTs l))] [] (fun r h'=>r=.d (.int .i64 (chkTs l))∧h'=[]):=by
 have hll:=qDr l
 unfold chkTs
 by_cases h1:l.length < 1∨l.length > 8
 case pos =>
  rw [if_pos h1]
  refine qAb hT Tryz.func128 rfl rfl rfl rfl ?_;intro E hE
  refine ww ?_
  refine qAa rfl (fun c1=>?_) (fun c1=>?_)
  ·refine ww ?_
   exact wwr
  ·exfalso
   simp only [Bool.or_eq_false_iff,decide_eq_false_iff_not] at c1
   omega
 rw [if_neg h1]
 generalize hfin:firstT l=fin
 refine qAb hT Tryz.func128 rfl rfl rfl rfl ?_;intro E hE
 refine ww ?_
 refine qAa rfl (fun c1=>?_) (fun c1=>?_)
 ·exfalso
  simp only [Bool.or_eq_true,decide_eq_true_eq] at c1
  omega
 refine ww ?_
 refine qBu (ι:=Nat) (fun i=>[(14,.d (.sl 7 (encTs l))),(15,.d (.int .i64 ((encTs l).length:Int))),(16,.d (.int .i64 (i:Int)))]) (fun _=>[])
  (fun i=>i≤l.length∧firstT (l.drop i)=fin) (fun i=>l.length-i) 0 ⟨by omega,by simpa using hfin⟩ ⟨.refl _,.refl _,.refl _,trivial⟩ (HLe.refl _) ?_
 rintro i ⟨hi,hg⟩
 have hwr:IntKind.i64.wrap ((i:Int)+1)=((i+1:Nat):Int):=by rw [qAe (by omega)];simp
 refine ww ?_
 refine qAa rfl (fun c2=>?_) (fun c2=>?_)
 ·have c2':i < l.length:=by rw [hll] at c2;simpa using c2
  have hel:=encTs_at c2'
  have hdr:l.drop i=l[i]::l.drop (i+1):=List.drop_eq_getElem_cons c2'
  rw [hdr,firstT] at hg
  have hV:=ValidB_spec l[i]
  generalize validT l[i]=vt at hV hg
  generalize l[i]=t at hel hV
  obtain ⟨t1,t2,t3,t4,t5,t6,t7⟩:=t
  unfold tAV tCells at hV
  unfold encT at hel
  simp only at hV hel
  refine ww ?_
  refine wwi hel ?_
  refine ww ?_
  refine wwc hV ?_
  refine ww ?_
  refine qAa rfl (fun c3=>?_) (fun c3=>?_)
  ·have c3':vt≠0:=by simpa using c3
   rw [if_pos c3'] at hg
   subst hg
   refine ww ?_
   exact wwr
  have c3':¬ vt≠0:=by simpa using c3
  rw [if_neg c3'] at hg
  refine ww ?_
  exact ⟨i+1,[_],⟨c2',hg⟩,by omega,⟨.refl _,.refl _,.int hwr,trivial⟩,HLe.refl _,Env.below_mono hE (by simp),rfl,rfl⟩
 ·have c2':i=l.length:=by rw [hll] at c2;simp at c2;omega
  subst c2'
  rw [List.drop_length] at hg
  subst hg
  refine ww ?_
  exact wwr
end Tdoc
namespace Tdoc
open Go
def trimF (s:List UInt8):List UInt8:=Lib.trimRightB s 60
def spaceF (s:List UInt8):List UInt8:=s.map fun c=>if c=60 then 32 else c
def wordsB (x:UInt8):Bool→List UInt8→Bool
 | _,[]=>true
 | b,c::l=>if c=x then !b&&!l.isEmpty&&wordsB x true l else isUp c&&wordsB x false l
theorem wordsB_name:∀ (b:Bool) (s:List UInt8),wordsB 32 b s=nameL b s
 | _,[]=>by simp [wordsB,nameL]
 | b,c::l=>by rw [wordsB,nameL,wordsB_name true l,wordsB_name false l];rfl
def cutR:List UInt8→List UInt8×List UInt8×Bool
 | []=>([],[],false)
 | c::l=>if c=60∧l.head?=some 60 then ([],l.tail,true) else (c::(cutR l).1,(cutR l).2.1,(cutR l).2.2)
theorem cutR_eq:∀ (s:List UInt8),Lib.cut s [60,60]=cutR s
 | []=>by simp [Lib.cut,cutR,Lib.index]
 | c::l=>by
  have ih:=cutR_eq l
  rw [cutR,← ih]
  have hge:=Lib.index_ge l [60,60]
  by_cases h:c=60∧l.head?=some 60
  ·obtain ⟨rfl,h⟩:=h
   match l,h with
   | d::m,h =>
    simp only [List.head?_cons,Option.some.injEq] at h
    subst h
    have hi:Lib.index (60::60::m) [60,60]=0:=by unfold Lib.index;simp
    simp [Lib.cut,hi]
  ·rw [if_neg h]
   have hp:([60,60]:List UInt8).isPrefixOf (c::l)=false:=by
    cases l with
    | nil=>simp [List.isPrefixOf]
    | cons d m =>
     simp only [List.head?_cons,Option.some.injEq] at h
     simp only [List.isPrefixOf,Bool.and_true,Bool.and_eq_false_iff,beq_eq_false_iff_ne,ne_eq]
     by_cases hc:c=60
     ·right;exact fun hh=>h ⟨hc,hh.symm⟩
     ·left;exact fun hh=>hc hh.symm
   have hi:Lib.index (c::l) [60,60]=if Lib.index l [60,60] == -1 then -1 else Lib.index l [60,60]+1:=by
    conv=>lhs;unfold Lib.index
    rw [hp];rfl
   by_cases hm:Lib.index l [60,60] = -1
   ·have h1:Lib.index (c::l) [60,60] = -1:=by rw [hi,hm];rfl
    unfold Lib.cut
    rw [h1,hm]
    simp
   ·have h1:Lib.index (c::l) [60,60]=Lib.index l [60,60]+1:=by rw [hi,if_neg (by simpa using hm)]
    unfold Lib.cut
    rw [h1,if_pos (by omega),if_pos (by omega)]
    have ht:(Lib.index l [60,60]+1).toNat=(Lib.index l [60,60]).toNat+1:=by omega
    rw [ht]
    simp [Nat.add_right_comm]
def splL:Nat→Bool→List UInt8→List UInt8→List UInt8→Option (List UInt8×List UInt8)
 | _,_,p0,p1,[]=>some (p0,p1)
 | r,a,p0,p1,c::l =>
  if c=60 then splL (r+1) a p0 p1 l
  else if r > 2∨(r > 0∧p0=[])∨(r=2∧a=true) then none
  else if r=2 then splL 0 true p0 (p1++[c]) l
  else if a=true then splL 0 true p0 (p1++(if r=1 then [32] else [])++[c]) l
  else splL 0 false (p0++(if r=1 then [32] else [])++[c]) p1 l
def isFld (s:List UInt8):Bool:=s.all fun c=>decide (c=60)||isUp c
def splitR (s:List UInt8):List UInt8×List UInt8×Int :=
 if s.length < 1∨s.length > 64 then ([],[],2) else if isFld s=false then ([],[],12)
 else match splL 0 false [] [] (trimF s) with
  | none=>([],[],1)
  | some (p0,p1)=>if p0=[] then ([],[],1) else (p0,p1,0)
def splitP (s:List UInt8):List UInt8×List UInt8×Int :=
 if s.length < 1∨s.length > 64 then ([],[],2) else if isFld s=false then ([],[],12)
 else if (Lib.cut (trimF s) [60,60]).1=[]∨((Lib.cut (trimF s) [60,60]).2.2=true∧(Lib.cut (trimF s) [60,60]).2.1=[])∨wordsB 60 true (Lib.cut (trimF s) [60,60]).1=false∨wordsB 60 true (Lib.cut (trimF s) [60,60]).2.1=false then ([],[],1)
 else (spaceF (Lib.cut (trimF s) [60,60]).1,spaceF (Lib.cut (trimF s) [60,60]).2.1,0)
def Endd (s:List UInt8):Prop:=s.getLast?≠some 60∧isFld s=true
theorem Endd.cons {c d:UInt8} {l:List UInt8} (h:Endd (c::d::l)):Endd (d::l):=⟨by have:=h.1;rwa [List.getLast?_cons_cons] at this,by have:=h.2;rw [isFld,List.all_cons,Bool.and_eq_true] at this;exact this.2⟩
theorem Endd.one {c:UInt8} (h:Endd [c]):c≠60:=fun e=>h.1 (by rw [e];rfl)
theorem Endd.tail {c:UInt8} {l:List UInt8} (h:Endd (c::l)):Endd l:=by
 cases l with
 | nil=>exact ⟨by simp,rfl⟩
 | cons d m=>exact h.cons
theorem Endd.up {c:UInt8} {l:List UInt8} (h:Endd (c::l)) (hc:c≠60):isUp c=true:=by
 have:=h.2
 rw [isFld,List.all_cons,Bool.and_eq_true] at this
 simpa [hc] using this.1
theorem Endd.ne {l:List UInt8} (h:Endd (60::l)):l≠[]:=fun e=>by subst e;exact h.one rfl
theorem splL_bad:∀ (l:List UInt8) (r:Nat) (a:Bool) (p0 p1:List UInt8),Endd l→l≠[]→(r > 2∨(r > 0∧p0=[])∨(r≥2∧a=true))→splL r a p0 p1 l=none
 | [],_,_,_,_,_,h,_=>absurd rfl h
 | c::l,r,a,p0,p1,h,_,hr=>by
  rw [splL]
  by_cases hc:c=60
  ·subst hc
   rw [if_pos rfl]
   exact splL_bad l (r+1) a p0 p1 h.tail h.ne (by
    rcases hr with hr | hr | hr
    ·exact .inl (by omega)
    ·exact .inr (.inl ⟨by omega,hr.2⟩)
    ·exact .inr (.inr ⟨by omega,hr.2⟩))
  ·rw [if_neg hc,if_pos]
   rcases hr with hr | hr | hr
   ·exact .inl hr
   ·exact .inr (.inl hr)
   ·by_cases h2:r=2
    ·exact .inr (.inr ⟨h2,hr.2⟩)
    ·exact .inl (by omega)
theorem spaceF_cons (c:UInt8) (l:List UInt8):spaceF (c::l)=(if c=60 then 32 else c)::spaceF l:=rfl
theorem splL_two (l:List UInt8):∀ (p0 p1:List UInt8),Endd l→p0≠[]→splL 0 true p0 p1 l=if wordsB 60 false l=true then some (p0,p1++spaceF l) else none:=by
 match l with
 | []=>intro p0 p1 h hp;simp [splL,wordsB,spaceF]
 | [c] =>
  intro p0 p1 h hp
  have hc:=h.one
  rw [splL,if_neg hc,if_neg (by simp),if_neg (by simp),if_pos rfl,splL,wordsB,if_neg hc,h.up hc]
  simp [wordsB,spaceF,hc]
 | c::d::m =>
  intro p0 p1 h hp
  have ih1:=splL_two (d::m)
  have ih2:=splL_two m
  by_cases hc:c=60
  ·subst hc
   rw [splL,if_pos rfl,wordsB,if_pos rfl]
   by_cases hd:d=60
   ·subst hd
    rw [splL,if_pos rfl,splL_bad m 2 true p0 p1 h.tail.tail h.tail.ne (.inr (.inr ⟨by omega,rfl⟩)),wordsB,if_pos rfl]
    simp
   ·rw [splL,if_neg hd,if_neg (by simp [hp]),if_neg (by omega),if_pos rfl,if_pos rfl,ih2 _ _ h.tail.tail hp,wordsB,if_neg hd,h.tail.up hd]
    simp [spaceF_cons,hd]
  ·rw [splL,if_neg hc,if_neg (by simp),if_neg (by omega),if_pos rfl,if_neg (by omega),ih1 _ _ h.tail hp]
   conv=>rhs;rw [wordsB,if_neg hc,h.up hc]
   simp [spaceF_cons,hc]
termination_by l.length
theorem splL_one (l:List UInt8):∀ (p0:List UInt8),Endd l→p0≠[]→splL 0 false p0 [] l =
  if wordsB 60 false (cutR l).1=true∧wordsB 60 true (cutR l).2.1=true∧((cutR l).2.2=true→(cutR l).2.1≠[]) then some (p0++spaceF (cutR l).1,spaceF (cutR l).2.1) else none:=by
 match l with
 | []=>intro p0 h hp;simp [splL,wordsB,spaceF,cutR]
 | [c] =>
  intro p0 h hp
  have hc:=h.one
  rw [splL,if_neg hc,if_neg (by simp),if_neg (by simp),if_neg (by simp),splL,cutR,if_neg (by simp)]
  simp [wordsB,spaceF,hc,cutR,h.up hc]
 | c::d::m =>
  intro p0 h hp
  have ih1:=splL_one (d::m)
  have ih2:=splL_one m
  by_cases hc:c=60
  ·subst hc
   by_cases hd:d=60
   ·subst hd
    have hcut:cutR (60::60::m)=([],m,true):=by rw [cutR,if_pos ⟨rfl,rfl⟩];rfl
    have hm:=h.tail.ne
    rw [splL,if_pos rfl,splL,if_pos rfl,hcut]
    match m,hm with
    | e::n,_ =>
     by_cases he:e=60
     ·subst he
      rw [splL,if_pos rfl,splL_bad n 3 false p0 [] h.tail.tail.tail h.tail.tail.ne (.inl (by omega))]
      simp [wordsB]
     ·rw [splL,if_neg he,if_neg (by simp [hp]),if_pos rfl,splL_two n p0 _ h.tail.tail.tail hp]
      simp [wordsB,he,h.tail.tail.up he,spaceF]
   ·have hcut:cutR (60::d::m)=(60::d::(cutR m).1,(cutR m).2.1,(cutR m).2.2):=by
     rw [cutR,if_neg (by simp [hd]),cutR,if_neg (by simp [hd])]
    rw [splL,if_pos rfl,splL,if_neg hd,if_neg (by simp [hp]),if_neg (by omega),if_neg (by simp),if_pos rfl,ih2 _ h.tail.tail (by simp),hcut]
    simp [wordsB,hd,h.tail.up hd,spaceF]
  ·have hcut:cutR (c::d::m)=(c::(cutR (d::m)).1,(cutR (d::m)).2.1,(cutR (d::m)).2.2):=by rw [cutR,if_neg (by simp [hc])]
   rw [splL,if_neg hc,if_neg (by simp),if_neg (by omega),if_neg (by simp),if_neg (by omega),ih1 _ h.tail (by simp),hcut]
   simp only [wordsB,if_neg hc,h.up hc,spaceF_cons,Bool.true_and]
   simp
termination_by l.length
theorem trimF_endd {s:List UInt8} (h:isFld s=true):Endd (trimF s):=by
 refine ⟨?_,?_⟩
 ·unfold trimF Lib.trimRightB
  rw [List.getLast?_reverse]
  intro hh
  generalize hd:s.reverse=t at hh
  clear hd h
  induction t with
  | nil=>simp at hh
  | cons a t ih =>
   rw [List.dropWhile_cons] at hh
   split at hh
   ·exact ih hh
   ·rename_i hn;simp at hh hn;exact hn hh
 ·unfold isFld at h ⊢
  rw [List.all_eq_true] at h ⊢
  intro x hx
  unfold trimF Lib.trimRightB at hx
  rw [List.mem_reverse] at hx
  exact h x (List.mem_reverse.1 ((List.dropWhile_sublist _).subset hx))
theorem split_agree (s:List UInt8):splitP s=splitR s:=by
 unfold splitP splitR
 split
 ·rfl
 split
 ·rfl
 rename_i h1 h2
 have hE:=trimF_endd (s:=s) (by simpa using h2)
 generalize trimF s=t at hE
 rw [cutR_eq]
 match t,hE with
 | [],_=>simp [cutR,splL]
 | c::l,hE =>
  by_cases hc:c=60
  ·subst hc
   rw [splL,if_pos rfl,splL_bad l 1 false [] [] hE.tail hE.ne (.inr (.inl ⟨by omega,rfl⟩))]
   simp only
   rw [if_pos]
   rw [cutR]
   split
   ·exact .inl rfl
   ·exact .inr (.inr (.inl (by simp [wordsB])))
  ·have hs:splL 0 false [] [] (c::l)=splL 0 false [c] [] l:=by rw [splL,if_neg hc];simp
   have hcut:cutR (c::l)=(c::(cutR l).1,(cutR l).2.1,(cutR l).2.2):=by rw [cutR,if_neg (by simp [hc])]
   have hw:∀ x,wordsB 60 true (c::x)=wordsB 60 false x:=fun x=>by rw [wordsB,if_neg hc,hE.up hc,Bool.true_and]
   have hsp:∀ x,spaceF (c::x)=c::spaceF x:=fun x=>by rw [spaceF_cons,if_neg hc]
   rw [hs,splL_one l _ hE.tail (by simp),hcut]
   simp only [hw,hsp]
   by_cases a1:wordsB 60 false (cutR l).1=true <;> by_cases a2:wordsB 60 true (cutR l).2.1=true <;> by_cases a3:(cutR l).2.2=true <;> by_cases a4:(cutR l).2.1=[] <;> simp [a1,a2,a3,a4] <;> simp_all [wordsB]
theorem index_one (x c:UInt8) (l:List UInt8):Lib.index (c::l) [x]=if c=x then 0 else if Lib.index l [x] = -1 then -1 else Lib.index l [x]+1:=by
 conv=>lhs;unfold Lib.index
 by_cases h:c=x
 ·subst h;simp [List.isPrefixOf]
 ·have hp:([x]:List UInt8).isPrefixOf (c::l)=false:=by
   simp only [List.isPrefixOf,Bool.and_true,beq_eq_false_iff_ne,ne_eq]
   exact fun e=>h e.symm
  rw [hp,if_neg h]
  by_cases hm:Lib.index l [x] = -1 <;> simp [hm]
theorem replaceK_miss (x y c:UInt8) (l:List UInt8) (h:c≠x):∀ n,Lib.replaceK [x] [y] n (c::l)=c::Lib.replaceK [x] [y] n l
 | 0=>rfl
 | n+1=>by
  have hi:=index_one x c l
  rw [if_neg h] at hi
  have hge:=Lib.index_ge l [x]
  unfold Lib.replaceK
  by_cases hm:Lib.index l [x] = -1
  ·rw [if_pos hm] at hi
   rw [hi,hm];rfl
  ·rw [if_neg hm] at hi
   have h1:¬ (Lib.index l [x] == -1)=true:=by simpa using hm
   have h2:¬ (Lib.index (c::l) [x] == -1)=true:=by rw [hi];simp;omega
   rw [if_neg h1,if_neg h2,hi]
   have ht:(Lib.index l [x]+1).toNat=(Lib.index l [x]).toNat+1:=by omega
   rw [ht]
   simp [Nat.add_right_comm]
theorem count_one (x c:UInt8) (l:List UInt8):Lib.count (c::l) [x]=(if c=x then 1 else 0)+Lib.count l [x]:=by
 have hi:=index_one x c l
 by_cases h:c=x
 ·rw [if_pos h] at hi
  rw [if_pos h,Lib.count_hit (i:=0) (by simp) (by rw [hi];rfl)]
  rfl
 ·rw [if_neg h] at hi
  have hge:=Lib.index_ge l [x]
  rw [if_neg h,Nat.zero_add]
  by_cases hm:Lib.index l [x] = -1
  ·rw [if_pos hm] at hi
   rw [Lib.count_miss hi,Lib.count_miss hm]
  ·rw [if_neg hm] at hi
   have h1:Lib.index l [x]=((Lib.index l [x]).toNat:Int):=by omega
   have h2:Lib.index (c::l) [x]=(((Lib.index l [x]).toNat+1:Nat):Int):=by omega
   rw [Lib.count_hit (by simp) h1,Lib.count_hit (by simp) h2]
   simp [Nat.add_right_comm]
theorem replaceK_all (x y:UInt8):∀ (s:List UInt8),Lib.replaceK [x] [y] (Lib.count s [x]) s=s.map fun c=>if c=x then y else c
 | []=>by
  have h:Lib.index ([]:List UInt8) [x] = -1:=rfl
  rw [Lib.count_miss h];rfl
 | c::l=>by
  have ih:=replaceK_all x y l
  rw [count_one,List.map_cons]
  by_cases h:c=x
  ·subst h
   rw [if_pos rfl,if_pos rfl,Nat.add_comm,Lib.replaceK_hit [c] [y] _ (c::l) 0 (by rw [index_one,if_pos rfl];rfl),← ih]
   simp
  ·rw [if_neg h,if_neg h,Nat.zero_add,replaceK_miss x y c l h,ih]
theorem replace_all (x y:UInt8) (h:x≠y) (s:List UInt8):Lib.replaceAll s [x] [y]=s.map fun c=>if c=x then y else c:=by
 unfold Lib.replaceAll Lib.replace
 rw [if_neg (by simpa using h)]
 unfold Lib.replaceNum
 rw [if_pos (.inl (by decide)),replaceK_all]
theorem replace_space (s:List UInt8):Lib.replaceAll s [60] [32]=spaceF s:=replace_all 60 32 (by decide) s
end Tdoc
namespace Tdoc
open Go
def zon0:Zon:=⟨0,[],[],[],[],[],[],[],[],[],[],[]⟩
structure Fl where
 kind:List UInt8
 state:List UInt8
 names:List UInt8
 num:List UInt8
 dg:List UInt8
 nat:List UInt8
 bir:List UInt8
 bd:List UInt8
 sex:List UInt8
 exp:List UInt8
 ed:List UInt8
 opt:List UInt8
 od:List UInt8
 sec:List UInt8
 comp:List UInt8
 all:List UInt8
def shapeF (ls:List (List UInt8)):Int:=match ls with
 | [a,b,c]=>if a.length=30∧b.length=30∧c.length=30 then 1 else 0
 | [a,b]=>if a.length=36∧b.length=36 then 2 else if a.length=44∧b.length=44 then 3 else 0
 | _=>0
def fld1 (a b c:List UInt8):Fl:=⟨cutS a 0 2,cutS a 2 5,c,cutS a 5 14,cutS a 14 15,cutS b 15 18,cutS b 0 6,cutS b 6 7,cutS b 7 8,cutS b 8 14,cutS b 14 15,cutS a 15 30,[],cutS b 18 29,cutS b 29 30,
 cutS a 5 30++cutS b 0 7++cutS b 8 15++cutS b 18 29⟩
def fld2 (a b:List UInt8):Fl:=⟨cutS a 0 2,cutS a 2 5,cutS a 5 36,cutS b 0 9,cutS b 9 10,cutS b 10 13,cutS b 13 19,cutS b 19 20,cutS b 20 21,cutS b 21 27,cutS b 27 28,cutS b 28 35,[],[],cutS b 35 36,
 cutS b 0 10++cutS b 13 20++cutS b 21 35⟩
def fld3 (a b:List UInt8):Fl:=⟨cutS a 0 2,cutS a 2 5,cutS a 5 44,cutS b 0 9,cutS b 9 10,cutS b 10 13,cutS b 13 19,cutS b 19 20,cutS b 20 21,cutS b 21 27,cutS b 27 28,cutS b 28 42,cutS b 42 43,[],cutS b 43 44,
 cutS b 0 10++cutS b 13 20++cutS b 21 43⟩
def chkF (f:Int) (x:Fl):Bool:=decide (x.dg=[60]∨x.dg=digitS x.num)&&(decide (x.bd=digitS x.bir)&&(decide (x.ed=digitS x.exp)&&(decide (f≠3∨x.od=digitS x.opt∨(trimF x.opt=[]∧x.od=[60]))&&decide (x.comp=digitS x.all))))
def lenTo (s:List UInt8):Nat:=(s.takeWhile (· != 60)).length
def numF (f:Int) (x:Fl):List UInt8×List UInt8×Int :=
 if x.dg≠[60] then (trimF x.num,trimF x.opt,0)
 else if f=3∨lenTo x.opt < 2∨lenTo x.opt=x.opt.length then ([],[],1)
 else if [x.opt.getD (lenTo x.opt-1) 0]≠digitS (x.num++x.opt.take (lenTo x.opt-1)) then ([],[],13)
 else (x.num++x.opt.take (lenTo x.opt-1),trimF (x.opt.drop (lenTo x.opt+1)),0)
def finZ (f:Int) (x:Fl):Zon:=⟨f,trimF x.kind,trimF x.state,(splitR x.names).1,(splitR x.names).2.1,(numF f x).1,trimF x.nat,x.bir,x.sex,x.exp,(numF f x).2.1,trimF x.sec⟩
def coreZ (f:Int) (x:Fl):Zon×Int :=
 if chkF f x=false then (zon0,13) else if (numF f x).2.2≠0 then (zon0,(numF f x).2.2) else if (splitR x.names).2.2≠0 then (zon0,(splitR x.names).2.2)
 else if validZ (finZ f x)≠0 then (zon0,validZ (finZ f x)) else (finZ f x,0)
def parseZ (ls:List (List UInt8)):Zon×Int :=
 if shapeF ls=0 then (zon0,2) else if ls.all validS=false then (zon0,12) else match ls with
  | [a,b,c]=>coreZ 1 (fld1 a b c)
  | [a,b]=>if a.length=36 then coreZ 2 (fld2 a b) else coreZ 3 (fld3 a b)
  | _=>(zon0,2)
def zoneT (s:List UInt8):Zon×Int :=
 if s.length=90 then parseZ [cutS s 0 30,cutS s 30 60,cutS s 60 90] else if s.length=72 then parseZ [cutS s 0 36,cutS s 36 72] else if s.length=88 then parseZ [cutS s 0 44,cutS s 44 88] else (zon0,2)
def zoneL (l:List Node):Zon×Int:=match l with
 | [x]=>if primF x 24351 (-1)=true then zoneT (valN x) else (zon0,1)
 | _=>(zon0,1)
def zoneO (b:List UInt8):Zon×Int:=if (openZ b 1 1).2.2≠0 then (zon0,(openZ b 1 1).2.2) else zoneL (openZ b 1 1).2.1
theorem qCe (s:List UInt8) (a b:Nat) (h:b≤s.length):(cutS s a b).length=b-a:=by unfold cutS;simp;omega
theorem validS_mem:∀ {s:List UInt8},validS s=true↔∀ c,c∈s→0≤valC (bI c)
 | []=>by simp [validS]
 | c::l=>by simp [validS,validS_mem (s:=l)]
theorem validS_sub {s t:List UInt8} (h:validS s=true) (ht:∀ c,c∈t→c∈s):validS t=true:=validS_mem.2 fun c hc=>validS_mem.1 h c (ht c hc)
theorem qAr {s:List UInt8} (a b:Nat) (h:validS s=true):validS (cutS s a b)=true:=validS_sub h fun c hc=>List.mem_of_mem_take (List.mem_of_mem_drop hc)
theorem validS_drop {s:List UInt8} (a:Nat) (h:validS s=true):validS (s.drop a)=true:=validS_sub h fun c hc=>List.mem_of_mem_drop hc
theorem validS_tk {s:List UInt8} (a:Nat) (h:validS s=true):validS (s.take a)=true:=validS_sub h fun c hc=>List.mem_of_mem_take hc
theorem qCh {s:List UInt8} (h:validS s=true):digitF s=(digitS s,0):=by unfold digitF;rw [if_pos h]
theorem lenTo_cons (c:UInt8) (l:List UInt8):lenTo (c::l)=if c=60 then 0 else lenTo l+1:=by
 unfold lenTo
 rw [List.takeWhile_cons]
 by_cases h:c=60 <;> simp [h]
theorem lenTo_le:∀ (s:List UInt8),lenTo s≤s.length
 | []=>Nat.le_refl _
 | c::l=>by rw [lenTo_cons];have:=lenTo_le l;simp only [List.length_cons];split <;> omega
theorem lenTo_at:∀ {s:List UInt8},lenTo s < s.length→s[lenTo s]?=some 60
 | [],h=>by simp [lenTo] at h
 | d::l,h=>by
  rw [lenTo_cons] at h ⊢
  split
  ·rename_i hd;simp [hd]
  ·rename_i hd;rw [if_neg hd] at h;simpa using lenTo_at (s:=l) (by simpa using h)
theorem cut_one (s:List UInt8):Lib.cut s [60]=if lenTo s=s.length then (s,[],false) else (s.take (lenTo s),s.drop (lenTo s+1),true):=by
 have h:∀ s:List UInt8,Lib.index s [60]=if lenTo s=s.length then -1 else (lenTo s:Int):=by
  intro s
  induction s with
  | nil=>rfl
  | cons c l ih =>
   have hl:=lenTo_le l
   rw [index_one,ih,lenTo_cons,List.length_cons]
   by_cases hc:c=60
   ·rw [if_pos hc,if_pos hc,if_neg (by omega)];rfl
   ·rw [if_neg hc,if_neg hc]
    by_cases hq:lenTo l=l.length
    ·rw [if_pos hq,if_pos rfl,if_pos (by omega)]
    ·rw [if_neg hq,if_neg (by omega),if_neg (by omega)];omega
 unfold Lib.cut
 rw [h]
 by_cases hq:lenTo s=s.length
 ·rw [if_pos hq,if_neg (by omega),if_pos hq]
 ·rw [if_neg hq,if_pos (by omega),if_neg hq];simp
end Tdoc
namespace Go.Proofs
open Go.Shelf
def Tryz.lays162_ren:Go.Shelf.Ren:=⟨fun | 162=>223 | 232=>255 | 227=>256 | 234=>258 | 236=>260 | 228=>272 | 271=>274 | 151=>273 | 120=>286 | 197=>271 | 152=>285 | 260=>284 | 137=>289 | 119=>290 | 224=>280 | 225=>279 | 217=>278 | 266=>287 | n=>n,fun | 9=>9 | 4=>4 | 3=>3 | 5=>5 | 117=>244 | 116=>243 | 0=>0 | 124=>247 | 21=>21 | 105=>252 | 46=>93 | 119=>261 | 139=>264 | 138=>263 | n=>n,fun | 3=>5 | 4=>6 | n=>n⟩
theorem Tryz.lays162:Go.Proofs.Lays.n162 Tryz.prog Tryz.lays162_ren:={
 mixed:=by kernel_rfl
 f119:=Tryz.func290.trans (congrArg some (by kernel_rfl))
 f120:=Tryz.func286.trans (congrArg some (by kernel_rfl))
 f137:=Tryz.func289.trans (congrArg some (by kernel_rfl))
 f151:=Tryz.func273.trans (congrArg some (by kernel_rfl))
 f152:=Tryz.func285.trans (congrArg some (by kernel_rfl))
 f162:=Tryz.func223.trans (congrArg some (by kernel_rfl))
 f197:=Tryz.func271.trans (congrArg some (by kernel_rfl))
 f217:=Tryz.func278.trans (congrArg some (by kernel_rfl))
 f224:=Tryz.func280.trans (congrArg some (by kernel_rfl))
 f225:=Tryz.func279.trans (congrArg some (by kernel_rfl))
 f227:=Tryz.func256.trans (congrArg some (by kernel_rfl))
 f228:=Tryz.func272.trans (congrArg some (by kernel_rfl))
 f232:=Tryz.func255.trans (congrArg some (by kernel_rfl))
 f234:=Tryz.func258.trans (congrArg some (by kernel_rfl))
 f236:=Tryz.func260.trans (congrArg some (by kernel_rfl))
 f260:=Tryz.func284.trans (congrArg some (by kernel_rfl))
 f266:=Tryz.func287.trans (congrArg some (by kernel_rfl))
 f271:=Tryz.func274.trans (congrArg some (by kernel_rfl))
 t0:=Tryz.underlying0
 a0:=Tryz.isAgg0
 z0:=Tryz.sizeOf0
 v0:=Tryz.zeroValue0
 t3:=Tryz.underlying3
 a3:=Tryz.isAgg3
 z3:=Tryz.sizeOf3
 v3:=Tryz.zeroValue3
 t4:=Tryz.underlying4
 a4:=Tryz.isAgg4
 z4:=Tryz.sizeOf4
 v4:=Tryz.zeroValue4
 t5:=Tryz.underlying5
 a5:=Tryz.isAgg5
 z5:=Tryz.sizeOf5
 v5:=Tryz.zeroValue5
 t9:=Tryz.underlying9
 a9:=Tryz.isAgg9
 z9:=Tryz.sizeOf9
 v9:=Tryz.zeroValue9
 t21:=Tryz.underlying21
 a21:=Tryz.isAgg21
 z21:=Tryz.sizeOf21
 v21:=Tryz.zeroValue21
 t46:=Tryz.underlying93
 a46:=Tryz.isAgg93
 z46:=Tryz.sizeOf93
 v46:=Tryz.zeroValue93
 t105:=Tryz.underlying252
 a105:=Tryz.isAgg252
 z105:=Tryz.sizeOf252
 v105:=Tryz.zeroValue252
 t116:=Tryz.underlying243
 a116:=Tryz.isAgg243
 z116:=Tryz.sizeOf243
 t117:=Tryz.underlying244
 a117:=Tryz.isAgg244
 z117:=Tryz.sizeOf244
 v117:=Tryz.zeroValue244
 t119:=Tryz.underlying261
 a119:=Tryz.isAgg261
 z119:=Tryz.sizeOf261
 t124:=Tryz.underlying247
 a124:=Tryz.isAgg247
 z124:=Tryz.sizeOf247
 v124:=Tryz.zeroValue247
 t138:=Tryz.underlying263
 a138:=Tryz.isAgg263
 z138:=Tryz.sizeOf263
 v138:=Tryz.zeroValue263
 t139:=Tryz.underlying264
 a139:=Tryz.isAgg264
 z139:=Tryz.sizeOf264
 v139:=Tryz.zeroValue264
 g3:=by kernel_rfl
 g4:=by kernel_rfl }
open Go.RowKit in
theorem Tryz.strings_TrimRight_one (s:ByteArray) (c:UInt8) (hc:c.toNat < 128) (w:World) (hs:s.size≤9223372036854775807) :
  Calls Tryz.prog 223 #[.string s,.string ⟨#[c]⟩] w fun e w'=>e=.returned (.string ⟨(Lib.trimRightB s.data.toList c).toArray⟩)∧w'=w:=Any.strings_TrimRight_one Tryz.lays162 s c hc w hs
def Tryz.lays160_ren:Go.Shelf.Ren:=⟨fun | 160=>221 | 232=>255 | 231=>254 | 227=>256 | 234=>258 | 233=>257 | 236=>260 | 235=>259 | 228=>272 | 271=>274 | 151=>273 | 197=>271 | 120=>286 | 152=>285 | 260=>284 | 137=>289 | 119=>290 | 224=>280 | 225=>279 | 217=>278 | 266=>287 | n=>n,fun | 9=>9 | 4=>4 | 3=>3 | 5=>5 | 117=>244 | 116=>243 | 0=>0 | 124=>247 | 21=>21 | 105=>252 | 46=>93 | 119=>261 | 139=>264 | 138=>263 | n=>n,fun | 3=>5 | 4=>6 | n=>n⟩
theorem Tryz.lays160:Go.Proofs.Lays.n160 Tryz.prog Tryz.lays160_ren:={
 mixed:=by kernel_rfl
 f119:=Tryz.func290.trans (congrArg some (by kernel_rfl))
 f120:=Tryz.func286.trans (congrArg some (by kernel_rfl))
 f137:=Tryz.func289.trans (congrArg some (by kernel_rfl))
 f151:=Tryz.func273.trans (congrArg some (by kernel_rfl))
 f152:=Tryz.func285.trans (congrArg some (by kernel_rfl))
 f160:=Tryz.func221.trans (congrArg some (by kernel_rfl))
 f197:=Tryz.func271.trans (congrArg some (by kernel_rfl))
 f217:=Tryz.func278.trans (congrArg some (by kernel_rfl))
 f224:=Tryz.func280.trans (congrArg some (by kernel_rfl))
 f225:=Tryz.func279.trans (congrArg some (by kernel_rfl))
 f227:=Tryz.func256.trans (congrArg some (by kernel_rfl))
 f228:=Tryz.func272.trans (congrArg some (by kernel_rfl))
 f231:=Tryz.func254.trans (congrArg some (by kernel_rfl))
 f232:=Tryz.func255.trans (congrArg some (by kernel_rfl))
 f233:=Tryz.func257.trans (congrArg some (by kernel_rfl))
 f234:=Tryz.func258.trans (congrArg some (by kernel_rfl))
 f235:=Tryz.func259.trans (congrArg some (by kernel_rfl))
 f236:=Tryz.func260.trans (congrArg some (by kernel_rfl))
 f260:=Tryz.func284.trans (congrArg some (by kernel_rfl))
 f266:=Tryz.func287.trans (congrArg some (by kernel_rfl))
 f271:=Tryz.func274.trans (congrArg some (by kernel_rfl))
 t0:=Tryz.underlying0
 a0:=Tryz.isAgg0
 z0:=Tryz.sizeOf0
 v0:=Tryz.zeroValue0
 t3:=Tryz.underlying3
 a3:=Tryz.isAgg3
 z3:=Tryz.sizeOf3
 v3:=Tryz.zeroValue3
 t4:=Tryz.underlying4
 a4:=Tryz.isAgg4
 z4:=Tryz.sizeOf4
 v4:=Tryz.zeroValue4
 t5:=Tryz.underlying5
 a5:=Tryz.isAgg5
 z5:=Tryz.sizeOf5
 v5:=Tryz.zeroValue5
 t9:=Tryz.underlying9
 a9:=Tryz.isAgg9
 z9:=Tryz.sizeOf9
 v9:=Tryz.zeroValue9
 t21:=Tryz.underlying21
 a21:=Tryz.isAgg21
 z21:=Tryz.sizeOf21
 v21:=Tryz.zeroValue21
 t46:=Tryz.underlying93
 a46:=Tryz.isAgg93
 z46:=Tryz.sizeOf93
 v46:=Tryz.zeroValue93
 t105:=Tryz.underlying252
 a105:=Tryz.isAgg252
 z105:=Tryz.sizeOf252
 v105:=Tryz.zeroValue252
 t116:=Tryz.underlying243
 a116:=Tryz.isAgg243
 z116:=Tryz.sizeOf243
 t117:=Tryz.underlying244
 a117:=Tryz.isAgg244
 z117:=Tryz.sizeOf244
 v117:=Tryz.zeroValue244
 t119:=Tryz.underlying261
 a119:=Tryz.isAgg261
 z119:=Tryz.sizeOf261
 t124:=Tryz.underlying247
 a124:=Tryz.isAgg247
 z124:=Tryz.sizeOf247
 v124:=Tryz.zeroValue247
 t138:=Tryz.underlying263
 a138:=Tryz.isAgg263
 z138:=Tryz.sizeOf263
 v138:=Tryz.zeroValue263
 t139:=Tryz.underlying264
 a139:=Tryz.isAgg264
 z139:=Tryz.sizeOf264
 v139:=Tryz.zeroValue264
 g3:=by kernel_rfl
 g4:=by kernel_rfl }
open Go.RowKit in
theorem Tryz.strings_Trim_one (s:ByteArray) (c:UInt8) (hc:c.toNat < 128) (w:World) (hs:s.size≤9223372036854775807) :
  Calls Tryz.prog 221 #[.string s,.string ⟨#[c]⟩] w fun e w'=>e=.returned (.string ⟨(Lib.trimB s.data.toList c).toArray⟩)∧(w'=w∨w'=w.drew):=Any.strings_Trim_one Tryz.lays160 s c hc w hs
def Tryz.lays144_ren:Go.Shelf.Ren:=⟨fun | 144=>186 | 143=>240 | 219=>266 | 217=>278 | 225=>279 | 224=>280 | 267=>281 | 266=>287 | 314=>288 | n=>n,fun | 9=>9 | 4=>4 | 3=>3 | 5=>5 | 46=>93 | 146=>230 | 51=>229 | n=>n,fun | 1=>4 | n=>n⟩
theorem Tryz.lays144:Go.Proofs.Lays.n144 Tryz.prog Tryz.lays144_ren:={
 mixed:=by kernel_rfl
 f143:=Tryz.func240.trans (congrArg some (by kernel_rfl))
 f144:=Tryz.func186.trans (congrArg some (by kernel_rfl))
 f217:=Tryz.func278.trans (congrArg some (by kernel_rfl))
 f219:=Tryz.func266.trans (congrArg some (by kernel_rfl))
 f224:=Tryz.func280.trans (congrArg some (by kernel_rfl))
 f225:=Tryz.func279.trans (congrArg some (by kernel_rfl))
 f266:=Tryz.func287.trans (congrArg some (by kernel_rfl))
 f267:=Tryz.func281.trans (congrArg some (by kernel_rfl))
 f314:=Tryz.func288.trans (congrArg some (by kernel_rfl))
 t3:=Tryz.underlying3
 a3:=Tryz.isAgg3
 z3:=Tryz.sizeOf3
 v3:=Tryz.zeroValue3
 t4:=Tryz.underlying4
 a4:=Tryz.isAgg4
 z4:=Tryz.sizeOf4
 v4:=Tryz.zeroValue4
 t5:=Tryz.underlying5
 a5:=Tryz.isAgg5
 z5:=Tryz.sizeOf5
 v5:=Tryz.zeroValue5
 t9:=Tryz.underlying9
 a9:=Tryz.isAgg9
 z9:=Tryz.sizeOf9
 v9:=Tryz.zeroValue9
 t46:=Tryz.underlying93
 a46:=Tryz.isAgg93
 z46:=Tryz.sizeOf93
 v46:=Tryz.zeroValue93
 t51:=Tryz.underlying229
 a51:=Tryz.isAgg229
 z51:=Tryz.sizeOf229
 v51:=Tryz.zeroValue229
 t146:=Tryz.underlying230
 a146:=Tryz.isAgg230
 z146:=Tryz.sizeOf230
 v146:=Tryz.zeroValue230
 g1:=by kernel_rfl }
open Go.RowKit Go.Lib in
theorem Tryz.strings_Contains_one (s:ByteArray) (c:UInt8) (w:World) :
  Calls Tryz.prog 186 #[.string s,.string ⟨#[c]⟩] w fun e w'=>e=.returned (.bool (decide (0≤Lib.indexByte s.data.toList c)))∧w'=w:=Any.strings_Contains_one Tryz.lays144 s c w
def Tryz.lays145_ren:Go.Shelf.Ren:=⟨fun | 145=>222 | 220=>261 | 219=>266 | 217=>278 | 225=>279 | 224=>280 | 267=>281 | 266=>287 | 314=>288 | n=>n,fun | 9=>9 | 4=>4 | 59=>219 | 3=>3 | 5=>5 | 46=>93 | 146=>230 | 51=>229 | n=>n,fun | 1=>4 | n=>n⟩
theorem Tryz.lays145:Go.Proofs.Lays.n145 Tryz.prog Tryz.lays145_ren:={
 mixed:=by kernel_rfl
 f145:=Tryz.func222.trans (congrArg some (by kernel_rfl))
 f217:=Tryz.func278.trans (congrArg some (by kernel_rfl))
 f219:=Tryz.func266.trans (congrArg some (by kernel_rfl))
 f220:=Tryz.func261.trans (congrArg some (by kernel_rfl))
 f224:=Tryz.func280.trans (congrArg some (by kernel_rfl))
 f225:=Tryz.func279.trans (congrArg some (by kernel_rfl))
 f266:=Tryz.func287.trans (congrArg some (by kernel_rfl))
 f267:=Tryz.func281.trans (congrArg some (by kernel_rfl))
 f314:=Tryz.func288.trans (congrArg some (by kernel_rfl))
 t3:=Tryz.underlying3
 a3:=Tryz.isAgg3
 z3:=Tryz.sizeOf3
 v3:=Tryz.zeroValue3
 t4:=Tryz.underlying4
 a4:=Tryz.isAgg4
 z4:=Tryz.sizeOf4
 v4:=Tryz.zeroValue4
 t5:=Tryz.underlying5
 a5:=Tryz.isAgg5
 z5:=Tryz.sizeOf5
 v5:=Tryz.zeroValue5
 t9:=Tryz.underlying9
 a9:=Tryz.isAgg9
 z9:=Tryz.sizeOf9
 v9:=Tryz.zeroValue9
 t46:=Tryz.underlying93
 a46:=Tryz.isAgg93
 z46:=Tryz.sizeOf93
 v46:=Tryz.zeroValue93
 t51:=Tryz.underlying229
 a51:=Tryz.isAgg229
 z51:=Tryz.sizeOf229
 v51:=Tryz.zeroValue229
 t59:=Tryz.underlying219
 a59:=Tryz.isAgg219
 z59:=Tryz.sizeOf219
 v59:=Tryz.zeroValue219
 t146:=Tryz.underlying230
 a146:=Tryz.isAgg230
 z146:=Tryz.sizeOf230
 v146:=Tryz.zeroValue230
 g1:=by kernel_rfl }
open Go.RowKit Go.Lib in
theorem Tryz.strings_Cut (s sep:ByteArray) (m:Int) (w:World) (hs:s.size < 4294967281) (hm:w.cell? ⟨4,0,none⟩=some (.int .i64 m)) :
  Calls Tryz.prog 222 #[.string s,.string sep] w fun e w'=>e=.returned (.tuple #[.string ⟨(Lib.cut s.data.toList sep.data.toList).1.toArray⟩,.string ⟨(Lib.cut s.data.toList sep.data.toList).2.1.toArray⟩,.bool (Lib.cut s.data.toList sep.data.toList).2.2])∧∃ n,w'=w.drewN n:=Any.strings_Cut Tryz.lays145 s sep m w hs hm
def Tryz.lays99_ren:Go.Shelf.Ren:=⟨fun | 99=>191 | 206=>244 | n=>n,fun | 9=>9 | 4=>4 | 3=>3 | n=>n,fun | n=>n⟩
theorem Tryz.lays99:Go.Proofs.Lays.n99 Tryz.prog Tryz.lays99_ren:={
 mixed:=by kernel_rfl
 f99:=Tryz.func191.trans (congrArg some (by kernel_rfl))
 f206:=Tryz.func244.trans (congrArg some (by kernel_rfl))
 t3:=Tryz.underlying3
 a3:=Tryz.isAgg3
 z3:=Tryz.sizeOf3
 v3:=Tryz.zeroValue3
 t4:=Tryz.underlying4
 a4:=Tryz.isAgg4
 z4:=Tryz.sizeOf4
 v4:=Tryz.zeroValue4
 t9:=Tryz.underlying9
 a9:=Tryz.isAgg9
 z9:=Tryz.sizeOf9
 v9:=Tryz.zeroValue9 }
open Go.RowKit Go.Lib in
theorem Tryz.strings_HasPrefix (s p:ByteArray) (w:World) :
  Calls Tryz.prog 191 #[.string s,.string p] w fun e w'=>e=.returned (.bool (Lib.hasPrefix s.data.toList p.data.toList))∧w'=w:=Any.strings_HasPrefix Tryz.lays99 s p w
def Tryz.lays100_ren:Go.Shelf.Ren:=⟨fun | 100=>241 | 207=>267 | n=>n,fun | 9=>9 | 4=>4 | 3=>3 | n=>n,fun | n=>n⟩
theorem Tryz.lays100:Go.Proofs.Lays.n100 Tryz.prog Tryz.lays100_ren:={
 mixed:=by kernel_rfl
 f100:=Tryz.func241.trans (congrArg some (by kernel_rfl))
 f207:=Tryz.func267.trans (congrArg some (by kernel_rfl))
 t3:=Tryz.underlying3
 a3:=Tryz.isAgg3
 z3:=Tryz.sizeOf3
 v3:=Tryz.zeroValue3
 t4:=Tryz.underlying4
 a4:=Tryz.isAgg4
 z4:=Tryz.sizeOf4
 v4:=Tryz.zeroValue4
 t9:=Tryz.underlying9
 a9:=Tryz.isAgg9
 z9:=Tryz.sizeOf9
 v9:=Tryz.zeroValue9 }
open Go.RowKit Go.Lib in
theorem Tryz.strings_HasSuffix (s p:ByteArray) (w:World) (hs:s.size≤9223372036854775807) :
  Calls Tryz.prog 241 #[.string s,.string p] w fun e w'=>e=.returned (.bool (Lib.hasSuffix s.data.toList p.data.toList))∧w'=w:=Any.strings_HasSuffix Tryz.lays100 s p w hs
def Tryz.lays155_ren:Go.Shelf.Ren:=⟨fun | 155=>196 | 154=>247 | 138=>270 | 165=>192 | 143=>240 | 166=>193 | 197=>271 | 169=>195 | 195=>282 | 218=>283 | 240=>245 | 241=>246 | 219=>266 | 260=>284 | 276=>268 | 277=>269 | 217=>278 | 225=>279 | 224=>280 | 267=>281 | 266=>287 | 314=>288 | n=>n,fun | 9=>9 | 3=>3 | 4=>4 | 72=>196 | 0=>0 | 76=>200 | 105=>252 | 21=>21 | 5=>5 | 70=>194 | 20=>20 | 37=>27 | 75=>199 | 127=>235 | 164=>250 | 46=>93 | 119=>261 | 139=>264 | 138=>263 | 146=>230 | 51=>229 | 80=>156 | n=>n,fun | 1=>4 | 3=>5 | 4=>6 | n=>n⟩
theorem Tryz.lays155:Go.Proofs.Lays.n155 Tryz.prog Tryz.lays155_ren:={
 mixed:=by kernel_rfl
 f138:=Tryz.func270.trans (congrArg some (by kernel_rfl))
 f143:=Tryz.func240.trans (congrArg some (by kernel_rfl))
 f154:=Tryz.func247.trans (congrArg some (by kernel_rfl))
 f155:=Tryz.func196.trans (congrArg some (by kernel_rfl))
 f165:=Tryz.func192.trans (congrArg some (by kernel_rfl))
 f166:=Tryz.func193.trans (congrArg some (by kernel_rfl))
 f169:=Tryz.func195.trans (congrArg some (by kernel_rfl))
 f195:=Tryz.func282.trans (congrArg some (by kernel_rfl))
 f197:=Tryz.func271.trans (congrArg some (by kernel_rfl))
 f217:=Tryz.func278.trans (congrArg some (by kernel_rfl))
 f218:=Tryz.func283.trans (congrArg some (by kernel_rfl))
 f219:=Tryz.func266.trans (congrArg some (by kernel_rfl))
 f224:=Tryz.func280.trans (congrArg some (by kernel_rfl))
 f225:=Tryz.func279.trans (congrArg some (by kernel_rfl))
 f240:=Tryz.func245.trans (congrArg some (by kernel_rfl))
 f241:=Tryz.func246.trans (congrArg some (by kernel_rfl))
 f260:=Tryz.func284.trans (congrArg some (by kernel_rfl))
 f266:=Tryz.func287.trans (congrArg some (by kernel_rfl))
 f267:=Tryz.func281.trans (congrArg some (by kernel_rfl))
 f276:=Tryz.func268.trans (congrArg some (by kernel_rfl))
 f277:=Tryz.func269.trans (congrArg some (by kernel_rfl))
 f314:=Tryz.func288.trans (congrArg some (by kernel_rfl))
 t0:=Tryz.underlying0
 a0:=Tryz.isAgg0
 z0:=Tryz.sizeOf0
 v0:=Tryz.zeroValue0
 t3:=Tryz.underlying3
 a3:=Tryz.isAgg3
 z3:=Tryz.sizeOf3
 v3:=Tryz.zeroValue3
 t4:=Tryz.underlying4
 a4:=Tryz.isAgg4
 z4:=Tryz.sizeOf4
 v4:=Tryz.zeroValue4
 t5:=Tryz.underlying5
 a5:=Tryz.isAgg5
 z5:=Tryz.sizeOf5
 v5:=Tryz.zeroValue5
 t9:=Tryz.underlying9
 a9:=Tryz.isAgg9
 z9:=Tryz.sizeOf9
 v9:=Tryz.zeroValue9
 t20:=Tryz.underlying20
 a20:=Tryz.isAgg20
 z20:=Tryz.sizeOf20
 v20:=Tryz.zeroValue20
 t21:=Tryz.underlying21
 a21:=Tryz.isAgg21
 z21:=Tryz.sizeOf21
 v21:=Tryz.zeroValue21
 t37:=Tryz.underlying27
 a37:=Tryz.isAgg27
 z37:=Tryz.sizeOf27
 v37:=Tryz.zeroValue27
 t46:=Tryz.underlying93
 a46:=Tryz.isAgg93
 z46:=Tryz.sizeOf93
 v46:=Tryz.zeroValue93
 t51:=Tryz.underlying229
 a51:=Tryz.isAgg229
 z51:=Tryz.sizeOf229
 v51:=Tryz.zeroValue229
 t70:=Tryz.underlying194
 a70:=Tryz.isAgg194
 z70:=Tryz.sizeOf194
 v70:=Tryz.zeroValue194
 t72:=Tryz.underlying196
 a72:=Tryz.isAgg196
 z72:=Tryz.sizeOf196
 v72:=Tryz.zeroValue196
 t75:=Tryz.underlying199
 a75:=Tryz.isAgg199
 z75:=Tryz.sizeOf199
 v75:=Tryz.zeroValue199
 t76:=Tryz.underlying200
 a76:=Tryz.isAgg200
 z76:=Tryz.sizeOf200
 v76:=Tryz.zeroValue200
 t105:=Tryz.underlying252
 a105:=Tryz.isAgg252
 z105:=Tryz.sizeOf252
 v105:=Tryz.zeroValue252
 t119:=Tryz.underlying261
 a119:=Tryz.isAgg261
 z119:=Tryz.sizeOf261
 t127:=Tryz.underlying235
 a127:=Tryz.isAgg235
 z127:=Tryz.sizeOf235
 v127:=Tryz.zeroValue235
 t138:=Tryz.underlying263
 a138:=Tryz.isAgg263
 z138:=Tryz.sizeOf263
 v138:=Tryz.zeroValue263
 t139:=Tryz.underlying264
 a139:=Tryz.isAgg264
 z139:=Tryz.sizeOf264
 v139:=Tryz.zeroValue264
 t146:=Tryz.underlying230
 a146:=Tryz.isAgg230
 z146:=Tryz.sizeOf230
 v146:=Tryz.zeroValue230
 t164:=Tryz.underlying250
 a164:=Tryz.isAgg250
 z164:=Tryz.sizeOf250
 v164:=Tryz.zeroValue250
 g1:=by kernel_rfl
 g3:=by kernel_rfl
 g4:=by kernel_rfl }
theorem Tryz.Builder_Extra_155:Builder.Extra Tryz.prog Tryz.lays155_ren:={
 sizeBuilder:=by kernel_rfl
 liesBuilder:=by kernel_rfl
 t5:=Tryz.underlying5
 a5:=Tryz.isAgg5
 z5:=Tryz.sizeOf5
 v5:=Tryz.zeroValue5
 infoByte:=by kernel_rfl
 cellsByte:=by kernel_rfl
 sizeByte:=by kernel_rfl
 neB5:=by decide }
open Go.RowKit Go.Lib in
theorem Tryz.strings_ReplaceAll (s old new:ByteArray) (m:Int) (w:World) (hs:s.size < 4294967281) (hm:w.cell? ⟨4,0,none⟩=some (.int .i64 m)) (h1:1≤old.size) (hlen:s.size+Lib.countB s old*new.size≤140737488355328) :
  Calls Tryz.prog 196 #[.string s,.string old,.string new] w fun e w' =>
   e=.returned (.string ⟨(Lib.replaceAll s.data.toList old.data.toList new.data.toList).toArray⟩)∧Below w.heap.size w w':=Any.strings_ReplaceAll Tryz.lays155 Tryz.Builder_Extra_155 s old new m w hs hm h1 hlen
def Tryz.lays105_ren:Go.Shelf.Ren:=⟨fun | 105=>121 | 212=>190 | 99=>191 | 165=>192 | 166=>193 | 170=>194 | 169=>195 | 263=>242 | 264=>243 | 206=>244 | 240=>245 | 241=>246 | 276=>268 | 277=>269 | n=>n,fun | 9=>9 | 3=>3 | 4=>4 | 20=>20 | 0=>0 | 46=>93 | 109=>192 | 5=>5 | 72=>196 | 76=>200 | 51=>229 | 146=>230 | 53=>232 | 148=>233 | 70=>194 | 37=>27 | 75=>199 | 127=>235 | 164=>250 | 80=>156 | n=>n,fun | n=>n⟩
theorem Tryz.lays105:Go.Proofs.Lays.n105 Tryz.prog Tryz.lays105_ren:={
 mixed:=by kernel_rfl
 f99:=Tryz.func191.trans (congrArg some (by kernel_rfl))
 f105:=Tryz.func121.trans (congrArg some (by kernel_rfl))
 f165:=Tryz.func192.trans (congrArg some (by kernel_rfl))
 f166:=Tryz.func193.trans (congrArg some (by kernel_rfl))
 f169:=Tryz.func195.trans (congrArg some (by kernel_rfl))
 f170:=Tryz.func194.trans (congrArg some (by kernel_rfl))
 f206:=Tryz.func244.trans (congrArg some (by kernel_rfl))
 f212:=Tryz.func190.trans (congrArg some (by kernel_rfl))
 f240:=Tryz.func245.trans (congrArg some (by kernel_rfl))
 f241:=Tryz.func246.trans (congrArg some (by kernel_rfl))
 f263:=Tryz.func242.trans (congrArg some (by kernel_rfl))
 f264:=Tryz.func243.trans (congrArg some (by kernel_rfl))
 f276:=Tryz.func268.trans (congrArg some (by kernel_rfl))
 f277:=Tryz.func269.trans (congrArg some (by kernel_rfl))
 t0:=Tryz.underlying0
 a0:=Tryz.isAgg0
 z0:=Tryz.sizeOf0
 v0:=Tryz.zeroValue0
 t3:=Tryz.underlying3
 a3:=Tryz.isAgg3
 z3:=Tryz.sizeOf3
 v3:=Tryz.zeroValue3
 t4:=Tryz.underlying4
 a4:=Tryz.isAgg4
 z4:=Tryz.sizeOf4
 v4:=Tryz.zeroValue4
 t5:=Tryz.underlying5
 a5:=Tryz.isAgg5
 z5:=Tryz.sizeOf5
 v5:=Tryz.zeroValue5
 t9:=Tryz.underlying9
 a9:=Tryz.isAgg9
 z9:=Tryz.sizeOf9
 v9:=Tryz.zeroValue9
 t20:=Tryz.underlying20
 a20:=Tryz.isAgg20
 z20:=Tryz.sizeOf20
 v20:=Tryz.zeroValue20
 t37:=Tryz.underlying27
 a37:=Tryz.isAgg27
 z37:=Tryz.sizeOf27
 v37:=Tryz.zeroValue27
 t46:=Tryz.underlying93
 a46:=Tryz.isAgg93
 z46:=Tryz.sizeOf93
 v46:=Tryz.zeroValue93
 t51:=Tryz.underlying229
 a51:=Tryz.isAgg229
 z51:=Tryz.sizeOf229
 v51:=Tryz.zeroValue229
 t53:=Tryz.underlying232
 a53:=Tryz.isAgg232
 z53:=Tryz.sizeOf232
 v53:=Tryz.zeroValue232
 t70:=Tryz.underlying194
 a70:=Tryz.isAgg194
 z70:=Tryz.sizeOf194
 v70:=Tryz.zeroValue194
 t72:=Tryz.underlying196
 a72:=Tryz.isAgg196
 z72:=Tryz.sizeOf196
 v72:=Tryz.zeroValue196
 t75:=Tryz.underlying199
 a75:=Tryz.isAgg199
 z75:=Tryz.sizeOf199
 v75:=Tryz.zeroValue199
 t76:=Tryz.underlying200
 a76:=Tryz.isAgg200
 z76:=Tryz.sizeOf200
 v76:=Tryz.zeroValue200
 t109:=Tryz.underlying192
 a109:=Tryz.isAgg192
 z109:=Tryz.sizeOf192
 v109:=Tryz.zeroValue192
 t127:=Tryz.underlying235
 a127:=Tryz.isAgg235
 z127:=Tryz.sizeOf235
 v127:=Tryz.zeroValue235
 t146:=Tryz.underlying230
 a146:=Tryz.isAgg230
 z146:=Tryz.sizeOf230
 v146:=Tryz.zeroValue230
 t148:=Tryz.underlying233
 a148:=Tryz.isAgg233
 z148:=Tryz.sizeOf233
 v148:=Tryz.zeroValue233
 t164:=Tryz.underlying250
 a164:=Tryz.isAgg250
 z164:=Tryz.sizeOf250
 v164:=Tryz.zeroValue250 }
theorem Tryz.Builder_Extra_105:Builder.Extra Tryz.prog Tryz.lays105_ren:={
 sizeBuilder:=by kernel_rfl
 liesBuilder:=by kernel_rfl
 t5:=Tryz.underlying5
 a5:=Tryz.isAgg5
 z5:=Tryz.sizeOf5
 v5:=Tryz.zeroValue5
 infoByte:=by kernel_rfl
 cellsByte:=by kernel_rfl
 sizeByte:=by kernel_rfl
 neB5:=by decide }
open Go.RowKit Go.Lib in
theorem Tryz.strings_Repeat (s:ByteArray) (c:Nat) (w:World) (hc:c≤9223372036854775807) (hlen:s.size*c≤140737488355328) :
  Calls Tryz.prog 121 #[.string s,.int .i64 c] w fun e w'=>e=.returned (.string ⟨(Lib.repeatL s.data.toList c).toArray⟩)∧Below w.heap.size w w':=Any.strings_Repeat Tryz.lays105 Tryz.Builder_Extra_105 s c w hc hlen
end Go.Proofs
namespace Tdoc
open Go Go.Proofs Go.RowKit
theorem funcOk {f:FuncId} {fn:Func} (h:Tryz.prog.funcs[f]?=some fn) (h1:(fn.name == "runtime.NumGoroutine")=false) (h2:fn.body.isNone=false):∃ fn,Tryz.prog.funcs[f]?=some fn∧(fn.name == "runtime.NumGoroutine")=false∧fn.body.isNone=false:=⟨fn,h,h1,h2⟩
theorem args2 {G:Gh} {x y:AV} {vals:Array Value} (h1:vals.size=[x,y].length) (h2:∀ (j:Nat) (z:AV) (v:Value),[x,y][j]?=some z→vals[j]?=some v→RepA G z v):∃ u v,vals = #[u,v]∧RepA G x u∧RepA G y v:=by
 obtain ⟨l⟩:=vals
 match l,h1 with
 | [u,v],_=>exact ⟨u,v,rfl,h2 0 _ _ rfl rfl,h2 1 _ _ rfl rfl⟩
theorem args3 {G:Gh} {x y z:AV} {vals:Array Value} (h1:vals.size=[x,y,z].length) (h2:∀ (j:Nat) (a:AV) (v:Value),[x,y,z][j]?=some a→vals[j]?=some v→RepA G a v):∃ u v s,vals = #[u,v,s]∧RepA G x u∧RepA G y v∧RepA G z s:=by
 obtain ⟨l⟩:=vals
 match l,h1 with
 | [u,v,s],_=>exact ⟨u,v,s,rfl,h2 0 _ _ rfl rfl,h2 1 _ _ rfl rfl,h2 2 _ _ rfl rfl⟩
theorem mk_size (s:List UInt8):(⟨s.toArray⟩:ByteArray).size=s.length:=by simp [ByteArray.size]
theorem TrimR_spec (s:List UInt8) (hs:s.length≤1000000):Spec Tryz.prog 223 [.d (.str s),.d (.str [60])] [] (fun r h'=>r=.d (.str (trimF s))∧h'=[]) :=
 Spec_lib (funcOk Tryz.func223 rfl rfl) rfl fun G w vals h1 h2 ht hi=>by
  obtain ⟨u,v,rfl,hu,hv⟩:=args2 h1 h2
  rw [hu.str_inv,hv.str_inv]
  refine (Tryz.strings_TrimRight_one ⟨s.toArray⟩ 60 (by decide) w (by rw [mk_size];omega)).mono ?_
  rintro e w' ⟨rfl,rfl⟩
  exact ⟨_,rfl,.d (.str _),Below.refl _ _⟩
theorem Trim60_spec (s:List UInt8) (hs:s.length≤1000000):Spec Tryz.prog 221 [.d (.str s),.d (.str [60])] [] (fun r h'=>r=.d (.str (Lib.trimB s 60))∧h'=[]) :=
 Spec_lib (funcOk Tryz.func221 rfl rfl) rfl fun G w vals h1 h2 ht hi=>by
  obtain ⟨u,v,rfl,hu,hv⟩:=args2 h1 h2
  rw [hu.str_inv,hv.str_inv]
  refine (Tryz.strings_Trim_one ⟨s.toArray⟩ 60 (by decide) w (by rw [mk_size];omega)).mono ?_
  rintro e w' ⟨rfl,hw⟩
  exact ⟨_,rfl,.d (.str _),by rcases hw with rfl | rfl <;> first | exact Below.refl _ _ | exact (Below.refl _ _).drew⟩
def upS:List UInt8:=[65,66,67,68,69,70,71,72,73,74,75,76,77,78,79,80,81,82,83,84,85,86,87,88,89,90]
theorem TrimUp_spec (s:List UInt8) (hs:s.length≤1000000):Spec Tryz.prog 221 [.d (.str s),.d (.str upS)] [] (fun r h'=>r=.d (.str (Lib.trimS s upS))∧h'=[]) :=
 Spec_lib (funcOk Tryz.func221 rfl rfl) rfl fun G w vals h1 h2 ht hi=>by
  obtain ⟨u,v,rfl,hu,hv⟩:=args2 h1 h2
  rw [hu.str_inv,hv.str_inv]
  refine (Any.strings_Trim_laid Tryz.lays160 (by kernel_rfl) ⟨s.toArray⟩ ⟨upS.toArray⟩ w (by rw [mk_size];omega) (by rw [mk_size];decide) (ascii_of_all (by decide))).mono ?_
  rintro e w' ⟨rfl,hb⟩
  exact ⟨_,rfl,.d (.str _),hb⟩
theorem Contains60_spec (s:List UInt8):Spec Tryz.prog 186 [.d (.str s),.d (.str [60])] [] (fun r h'=>r=.d (.bool (decide (0≤Lib.indexByte s 60)))∧h'=[]) :=
 Spec_lib (funcOk Tryz.func186 rfl rfl) rfl fun G w vals h1 h2 ht hi=>by
  obtain ⟨u,v,rfl,hu,hv⟩:=args2 h1 h2
  rw [hu.str_inv,hv.str_inv]
  refine (Tryz.strings_Contains_one ⟨s.toArray⟩ 60 w).mono ?_
  rintro e w' ⟨rfl,rfl⟩
  exact ⟨_,rfl,.d (.bool _),Below.refl _ _⟩
theorem HasPrefix_spec (s p:List UInt8):Spec Tryz.prog 191 [.d (.str s),.d (.str p)] [] (fun r h'=>r=.d (.bool (Lib.hasPrefix s p))∧h'=[]) :=
 Spec_lib (funcOk Tryz.func191 rfl rfl) rfl fun G w vals h1 h2 ht hi=>by
  obtain ⟨u,v,rfl,hu,hv⟩:=args2 h1 h2
  rw [hu.str_inv,hv.str_inv]
  refine (Tryz.strings_HasPrefix ⟨s.toArray⟩ ⟨p.toArray⟩ w).mono ?_
  rintro e w' ⟨rfl,rfl⟩
  exact ⟨_,rfl,.d (.bool _),Below.refl _ _⟩
theorem HasSuffix_spec (s p:List UInt8) (hs:s.length≤1000000):Spec Tryz.prog 241 [.d (.str s),.d (.str p)] [] (fun r h'=>r=.d (.bool (Lib.hasSuffix s p))∧h'=[]) :=
 Spec_lib (funcOk Tryz.func241 rfl rfl) rfl fun G w vals h1 h2 ht hi=>by
  obtain ⟨u,v,rfl,hu,hv⟩:=args2 h1 h2
  rw [hu.str_inv,hv.str_inv]
  refine (Tryz.strings_HasSuffix ⟨s.toArray⟩ ⟨p.toArray⟩ w (by rw [mk_size];omega)).mono ?_
  rintro e w' ⟨rfl,rfl⟩
  exact ⟨_,rfl,.d (.bool _),Below.refl _ _⟩
theorem Cut_spec (s sep:List UInt8) (hs:s.length≤1000000):Spec Tryz.prog 222 [.d (.str s),.d (.str sep)] [] (fun r h'=>r=.tup [.d (.str (Lib.cut s sep).1),.d (.str (Lib.cut s sep).2.1),.d (.bool (Lib.cut s sep).2.2)]∧h'=[]) :=
 Spec_lib (funcOk Tryz.func222 rfl rfl) rfl fun G w vals h1 h2 ht hi=>by
  obtain ⟨u,v,rfl,hu,hv⟩:=args2 h1 h2
  rw [hu.str_inv,hv.str_inv]
  obtain ⟨_,o,ho,m,t,f,rfl⟩:=ht.2 4 _ rfl
  refine (Tryz.strings_Cut ⟨s.toArray⟩ ⟨sep.toArray⟩ m w (by rw [mk_size];omega) (by simp [World.cell?,ho])).mono ?_
  rintro e w' ⟨rfl,n,rfl⟩
  refine ⟨_,rfl,.tup _ rfl fun j x y hx hy=>?_,Below_drew w n⟩
  match j,hx,hy with
  | 0,hx,hy=>simp at hx hy;subst hx;subst hy;exact .d (.str _)
  | 1,hx,hy=>simp at hx hy;subst hx;subst hy;exact .d (.str _)
  | 2,hx,hy=>simp at hx hy;subst hx;subst hy;exact .d (.bool _)
  | j+3,hx,hy=>simp at hx
theorem ReplaceSp_spec (s:List UInt8) (hs:s.length≤1000000):Spec Tryz.prog 196 [.d (.str s),.d (.str [60]),.d (.str [32])] [] (fun r h'=>r=.d (.str (spaceF s))∧h'=[]) :=
 Spec_lib (funcOk Tryz.func196 rfl rfl) rfl fun G w vals h1 h2 ht hi=>by
  obtain ⟨u,v,x,rfl,hu,hv,hx⟩:=args3 h1 h2
  rw [hu.str_inv,hv.str_inv,hx.str_inv]
  obtain ⟨_,o,ho,m,t,f,rfl⟩:=ht.2 4 _ rfl
  have hc:=Lib.count_le s [60]
  refine (Tryz.strings_ReplaceAll ⟨s.toArray⟩ ⟨#[60]⟩ ⟨#[32]⟩ m w (by rw [mk_size];omega) (by simp [World.cell?,ho]) (by decide) (by rw [mk_size];show s.length+Lib.count s [60]*1≤_;omega)).mono ?_
  rintro e w' ⟨rfl,hb⟩
  refine ⟨_,rfl,?_,hb⟩
  rw [← replace_space]
  exact .d (.str _)
theorem EqualB_spec (a b:List UInt8):Spec Tryz.prog 93 [.d (.sl 1 (encB a)),.d (.sl 1 (encB b))] [] (fun r h'=>r=.d (.bool (a == b))∧h'=[]):=by
 refine qAb hT Tryz.func93 rfl rfl rfl rfl ?_;intro E hE
 refine ww ?_
 refine qCa hT rfl rfl (qBk a) ?_
 refine ww ?_
 refine qCa hT rfl rfl (qBk b) ?_
 rw [qBp,qBp]
 refine ww ?_
 exact wwr
theorem all_of_drop {p:UInt8→Bool}:∀ {s:List UInt8},s.dropWhile p=[]↔s.all p=true
 | []=>by simp
 | c::l=>by
  rw [List.dropWhile_cons,List.all_cons]
  by_cases h:p c=true
  ·rw [if_pos h,h,all_of_drop (s:=l)];simp
  ·rw [if_neg h];simp at h;simp [h]
theorem all_rev (p:UInt8→Bool) (s:List UInt8):s.reverse.all p=s.all p:=by rw [List.all_reverse]
theorem trimB_nil {s:List UInt8}:Lib.trimB s 60=[]↔trimF s=[]:=by
 unfold Lib.trimB Lib.trimLeftB
 show List.dropWhile _ (trimF s)=[]↔_
 rw [all_of_drop]
 constructor
 ·intro h
  have hn:trimF s=[]∨∃ c,(trimF s).getLast?=some c∧c≠60:=by
   unfold trimF Lib.trimRightB
   rw [List.reverse_eq_nil_iff,List.getLast?_reverse]
   generalize s.reverse=t
   induction t with
   | nil=>exact .inl rfl
   | cons c l ih =>
    rw [List.dropWhile_cons]
    split
    ·exact ih
    ·rename_i hc;exact .inr ⟨c,rfl,by simpa using hc⟩
  rcases hn with hn | ⟨c,hc,hne⟩
  ·exact hn
  ·have:=List.all_eq_true.1 h c (List.mem_of_getLast? hc)
   exact absurd (by simpa using this) hne
 ·intro h;rw [h];rfl
theorem up_contains (c:UInt8):upS.contains c=isUp c:=by
 have h:∀ n,n < 256→upS.contains (UInt8.ofNat n)=isUp (UInt8.ofNat n):=by decide +kernel
 have:=h c.toNat (UInt8.toNat_lt c)
 rwa [UInt8.ofNat_toNat] at this
theorem trimS_nil {s:List UInt8}:(Lib.trimS s upS=[])↔s.all isUp=true:=by
 have hf:(fun c=>upS.contains c)=isUp:=funext up_contains
 unfold Lib.trimS Lib.trimLeftS Lib.trimRightS
 rw [hf,all_of_drop]
 constructor
 ·intro h
  have h2:(s.reverse.dropWhile isUp).all isUp=true:=by rw [← all_rev];exact h
  have h3:∀ t:List UInt8,(t.dropWhile isUp).all isUp=true→t.all isUp=true:=by
   intro t
   induction t with
   | nil=>intro _;rfl
   | cons c l ih =>
    intro h
    rw [List.dropWhile_cons] at h
    by_cases hc:isUp c=true
    ·rw [if_pos hc] at h;rw [List.all_cons,hc,ih h];rfl
    ·rw [if_neg hc] at h;exact h
  rw [← all_rev];exact h3 _ h2
 ·intro h
  have:s.reverse.dropWhile isUp=[]:=all_of_drop.2 (by rw [all_rev];exact h)
  rw [this];rfl
theorem index_in:∀ (s:List UInt8),decide (0≤Lib.indexByte s 60)=s.any (· == 60)
 | []=>by decide
 | c::l=>by
  have ih:=index_in l
  have hge:∀ l:List UInt8,-1≤Lib.indexByte l 60:=by
   intro l
   induction l with
   | nil=>decide
   | cons c l ih=>unfold Lib.indexByte;split;· omega
                  split <;> omega
  have hl:=hge l
  have hi:Lib.indexByte (c::l) 60=if c == 60 then 0 else if Lib.indexByte l 60 == -1 then -1 else Lib.indexByte l 60+1:=rfl
  rw [List.any_cons,← ih,hi]
  by_cases hc:(c == 60)=true
  ·rw [if_pos hc,hc];simp
  ·rw [if_neg hc]
   simp only [Bool.not_eq_true] at hc
   rw [hc]
   by_cases hm:Lib.indexByte l 60 = -1
   ·rw [if_pos (by simpa using hm),hm];rfl
   ·rw [if_neg (by simpa using hm),Bool.false_or]
    rw [Bool.eq_iff_iff];simp only [decide_eq_true_eq];omega
theorem prefix_one (s:List UInt8):Lib.hasPrefix s [60]=decide (s.head?=some 60):=by
 unfold Lib.hasPrefix
 cases s with
 | nil=>rfl
 | cons c l =>
  simp only [List.isPrefixOf,Bool.and_true,List.head?_cons,Option.some.injEq]
  by_cases h:c=60
  ·subst h;rfl
  ·rw [decide_eq_false h,beq_eq_false_iff_ne];exact fun e=>h e.symm
theorem suffix_one (s:List UInt8):Lib.hasSuffix s [60]=decide (s.getLast?=some 60):=by
 unfold Lib.hasSuffix List.isSuffixOf
 rw [show ([60]:List UInt8).reverse=[60] from rfl]
 have h:=prefix_one s.reverse
 unfold Lib.hasPrefix at h
 rw [h,List.head?_reverse]
end Tdoc
namespace Tdoc
open Go Go.Proofs
theorem letterP_spec (n:Int):Spec Tryz.prog 224 [.d (.int .u8 n)] [] (fun r h'=>r=.d (.bool (decide (n≥65)&&decide (n≤90)))∧h'=[]):=by
 refine qAb hT Tryz.func224 rfl rfl rfl rfl ?_;intro E hE
 refine ww ?_
 exact wwr
theorem ValueP_spec (n:Int) (hn:0≤n∧n < 256):Spec Tryz.prog 220 [.d (.int .u8 n)] [] (fun r h'=>r=.d (.int .i64 (valC n))∧h'=[]):=by
 have hl:=letterP_spec n
 unfold valC
 refine qAb hT Tryz.func220 rfl rfl rfl rfl ?_;intro E hE
 refine ww ?_
 refine qAa rfl (fun h1=>?_) (fun h1=>?_)
 ·have h1':48≤n∧n≤57:=by simpa using h1
  rw [if_pos h1']
  have hw:IntKind.i64.wrap (IntKind.u8.wrap (n-48))=n-48:=by rw [wrapu8 (by omega),qAe (by omega)]
  refine ww ?_
  exact wwr
 ·have h1':¬ (48≤n∧n≤57):=by simpa using h1
  rw [if_neg h1']
  refine ww ?_
  refine wwc hl ?_
  refine ww ?_
  refine qAa rfl (fun h2=>?_) (fun h2=>?_)
  ·have h2':65≤n∧n≤90:=by simpa using h2
   rw [if_pos h2']
   have hw:IntKind.i64.wrap (IntKind.i64.wrap (IntKind.u8.wrap (n-65))+10)=n-55:=by rw [wrapu8 (by omega),qAe (n:=n-65) (by omega),qAe (by omega)];omega
   refine ww ?_
   exact wwr
  ·have h2':¬ (65≤n∧n≤90):=by simpa using h2
   rw [if_neg h2']
   refine ww ?_
   refine qAa rfl (fun h3=>?_) (fun h3=>?_)
   ·have h3':n=60:=by simpa using h3
    rw [if_pos h3']
    refine ww ?_
    exact wwr
   ·have h3':¬ n=60:=by simpa using h3
    rw [if_neg h3']
    refine ww ?_
    exact wwr
theorem ValidP_spec (s:List UInt8) (hs:s.length≤1000000):Spec Tryz.prog 152 [.d (.str s)] [] (fun r h'=>r=.d (.bool (validS s))∧h'=[]):=by
 generalize hfin:validS s=fin
 refine qAb hT Tryz.func152 rfl rfl rfl rfl ?_;intro E hE
 refine ww ?_
 refine qAq (ι:=Nat) (fun i=>[(0,.d (.str s)),(5,.d (.int .i64 (s.length:Int))),(6,.d (.int .i64 (i:Int)))]) (fun _=>[]) (fun i=>i≤s.length∧validS (s.drop i)=fin) (fun i=>s.length-i) 0 ⟨by omega,by simpa using hfin⟩ ⟨.refl _,.refl _,.refl _,trivial⟩ (HLe.refl _) ?_
 rintro i ⟨hi,hg⟩
 have hwr:IntKind.i64.wrap ((i:Int)+1)=((i+1:Nat):Int):=by rw [qAe (by omega)];simp
 refine ww ?_
 refine qAa rfl (fun h1=>?_) (fun h1=>?_)
 ·have h1':i < s.length:=by simpa using h1
  have hsa:=qCp h1'
  rw [drop_cons h1',validS] at hg
  have hr:=bI_range s[i]
  generalize s[i]=c at hsa hg hr
  have hv:=ValueP_spec (strAt s (i:Int)) (by rw [hsa];exact hr)
  rw [hsa] at hv
  rw [← hsa] at hv
  refine ww ?_
  refine wwc hv ?_
  refine ww ?_
  refine qAa rfl (fun h2=>?_) (fun h2=>?_)
  ·have h2':¬ 0≤valC (bI c):=by rw [hsa] at h2;simp at h2;omega
   rw [decide_eq_false h2',Bool.false_and] at hg
   subst hg
   refine ww ?_
   exact wwr
  ·have h2':0≤valC (bI c):=by rw [hsa] at h2;simp at h2;omega
   rw [decide_eq_true h2',Bool.true_and] at hg
   refine ww ?_
   exact ⟨i+1,⟨h1',hg⟩,by omega,⟨.refl _,.refl _,.int hwr,trivial⟩,HLe.refl _⟩
 ·have h1':i=s.length:=by simp at h1;omega
  subst h1'
  rw [List.drop_length] at hg
  subst hg
  refine ww ?_
  exact wwr
theorem words_step {x:UInt8} {s:List UInt8} {i:Nat} (h:i < s.length) (hs:s.length≤1000000) (hx:isUp x=false):wordsB x (decide (i=0)||decide (s[i-1]?=some x)) (s.drop i) =
  (!(!(decide (strAt s (i:Int)≥65)&&decide (strAt s (i:Int)≤90))&&(strAt s (i:Int) != bI x||!(decide ((i:Int) > 0)&&decide ((i:Int) < IntKind.i64.wrap ((s.length:Int)-1))&&(strAt s (IntKind.i64.wrap ((i:Int)-1)) != bI x)))) &&
   wordsB x (decide (i+1=0)||decide (s[i+1-1]?=some x)) (s.drop (i+1))):=by
 have hsa:=qCp h
 have hsi:s[i+1-1]?=some s[i]:=by simp [h]
 have hwl:IntKind.i64.wrap ((s.length:Int)-1)=((s.length-1:Nat):Int):=by rw [qAe (by omega)];omega
 have hp:i≠0→(strAt s (IntKind.i64.wrap ((i:Int)-1)) != bI x)=!decide (s[i-1]?=some x):=fun h0=>by
  rw [qAe (by omega),show (i:Int)-1=((i-1:Nat):Int) by omega,qCp (by omega),List.getElem?_eq_getElem (by omega:i-1 < s.length)]
  generalize s[i-1]'(by omega)=c
  have hc:bI c=bI x↔c=x:=byte_eq (c:=c) (d:=x)
  by_cases h1:c=x
  ·simp [h1]
  ·have:=mt hc.1 h1
   simp [h1,this]
 have he:decide ((i:Int) < ((s.length-1:Nat):Int))=!(s.drop (i+1)).isEmpty:=by
  by_cases h1:i+1=s.length
  ·rw [decide_eq_false (by omega)]
   have:s.drop (i+1)=[]:=List.drop_eq_nil_of_le (by omega)
   rw [this];rfl
  ·rw [decide_eq_true (by omega)]
   cases hd:s.drop (i+1) with
   | nil=>have:=congrArg List.length hd;simp at this;omega
   | cons a l=>rfl
 rw [drop_cons h,wordsB,hwl,hsa,hsi,he]
 generalize s[i]=c at *
 have hc:bI c=bI x↔c=x:=byte_eq (c:=c) (d:=x)
 have hup:(decide (bI c≥65)&&decide (bI c≤90))=isUp c:=by
  unfold isUp
  rw [Bool.eq_iff_iff];simp
 have hn0:decide (i+1=0)=false:=by simp
 have hcx:decide (some c=some x)=decide (c=x):=by simp
 rw [hn0,Bool.false_or,hup,hcx]
 by_cases h1:c=x
 ·subst h1
  rw [if_pos rfl,hx,decide_eq_true rfl]
  have e1:(bI c != bI c)=false:=by simp
  rw [e1]
  by_cases h0:i=0
  ·subst h0
   simp
  ·rw [hp h0]
   have hd:decide (i=0)=false:=decide_eq_false h0
   have hd2:decide ((i:Int) > 0)=true:=decide_eq_true (by omega)
   rw [hd,hd2]
   generalize decide (s[i-1]?=some c)=a
   generalize (s.drop (i+1)).isEmpty=b
   generalize wordsB c true (s.drop (i+1))=d
   revert a b d;decide
 ·have e1:(bI c != bI x)=true:=by simpa using mt hc.1 h1
  rw [if_neg h1,e1,decide_eq_false h1]
  cases isUp c <;> simp
theorem words_spec (s:List UInt8) (x:UInt8) (hs:s.length≤1000000) (hx:isUp x=false):Spec Tryz.prog 225 [.d (.str s),.d (.int .u8 (bI x))] [] (fun r h'=>r=.d (.bool (wordsB x true s))∧h'=[]):=by
 generalize hfin:wordsB x true s=fin
 refine qAb hT Tryz.func225 rfl rfl rfl rfl ?_;intro E hE
 refine ww ?_
 refine qAq (ι:=Nat) (fun i=>[(0,.d (.str s)),(1,.d (.int .u8 (bI x))),(8,.d (.int .i64 (s.length:Int))),(9,.d (.int .i64 (i:Int)))]) (fun _=>[]) (fun i=>i≤s.length∧wordsB x (decide (i=0)||decide (s[i-1]?=some x)) (s.drop i)=fin) (fun i=>s.length-i) 0 ⟨by omega,by simpa using hfin⟩ ⟨.refl _,.refl _,.refl _,.refl _,trivial⟩ (HLe.refl _) ?_
 rintro i ⟨hi,hg⟩
 have hwr:IntKind.i64.wrap ((i:Int)+1)=((i+1:Nat):Int):=by rw [qAe (by omega)];simp
 refine ww ?_
 refine qAa rfl (fun h1=>?_) (fun h1=>?_)
 ·have h1':i < s.length:=by simpa using h1
  have hst:=words_step h1' hs hx
  rw [hst] at hg
  have hl:=letterP_spec (strAt s (i:Int))
  have hwi:(i:Int) > 0→IntKind.i64.wrap ((i:Int)-1)=(i:Int)-1:=fun _=>qAe (by omega)
  refine ww ?_
  refine wwc hl ?_
  refine ww ?_
  refine qAa rfl (fun h2=>?_) (fun h2=>?_)
  ·rw [h2] at hg
   simp only [Bool.not_true,Bool.false_and] at hg
   subst hg
   refine ww ?_
   exact wwr
  ·rw [h2] at hg
   simp only [Bool.not_false,Bool.true_and] at hg
   refine ww ?_
   exact ⟨i+1,⟨h1',hg⟩,by omega,⟨.refl _,.refl _,.refl _,.int hwr,trivial⟩,HLe.refl _⟩
 ·have h1':i=s.length:=by simp at h1;omega
  subst h1'
  rw [List.drop_length] at hg
  subst hg
  refine ww ?_
  exact wwr
theorem NameP_spec (s:List UInt8) (hs:s.length≤1000000):Spec Tryz.prog 185 [.d (.str s)] [] (fun r h'=>r=.d (.bool (nameL true s))∧h'=[]):=by
 have hw:=words_spec s 32 hs rfl
 rw [wordsB_name] at hw
 refine qAb hT Tryz.func185 rfl rfl rfl rfl ?_;intro E hE
 refine ww ?_
 refine wwc hw ?_
 refine ww ?_
 exact wwr
end Tdoc
namespace Tdoc
open Go Go.Proofs
def digD (s:List UInt8) (k:Nat):Int:=bI (s.getD k 0)-48
def pN (s:List UInt8) (a i:Nat):Int:=if i≤a then 0 else if i=a+1 then digD s a else 10*digD s a+digD s (a+1)
theorem qBn (c:UInt8):isDig c=true↔48≤bI c∧bI c≤57:=by simp [isDig]
theorem dayParse_spec (s:List UInt8) (first:Int) (hs:s.length≤1000000):Spec Tryz.prog 170 [.d (.str s),.d (.int .i64 first)] [] (fun r h'=>r=.tup [.d (.int .i64 (dayParse s first).1),.d (.int .i64 (dayParse s first).2)]∧h'=[]):=by
 unfold dayParse
 refine qAb hT Tryz.func170 rfl rfl rfl rfl ?_;intro E hE
 refine ww ?_
 refine qAa rfl (fun c1=>?_) (fun c1=>?_)
 ·have c1':first < 1900∨first > 2000:=by simpa using c1
  rw [if_pos c1']
  refine ww ?_
  exact wwr
 have c1':¬ (first < 1900∨first > 2000):=by simpa using c1
 rw [if_neg c1']
 refine ww ?_
 refine qAa rfl (fun c2=>?_) (fun c2=>?_)
 ·have c2':s.length≠6:=by simp at c2;omega
  rw [if_pos c2']
  refine ww ?_
  exact wwr
 have c2':¬ s.length≠6:=by simp at c2;omega
 have hlen:s.length=6:=by omega
 rw [if_neg c2']
 refine ww ?_
 refine qAq (ι:=Nat) (fun i=>[(0,.d (.str s)),(1,.d (.int .i64 first)),(6,.ptr 0 0),(7,.d (.int .i64 (i:Int)))]) (fun i=>[.row [.d (.int .i64 (pN s 0 i)),.d (.int .i64 (pN s 2 i)),.d (.int .i64 (pN s 4 i))]]) (fun i=>i≤6∧∀ k,k < i→isDig (s.getD k 0)=true) (fun i=>6-i) 0 ⟨by omega,fun k hk=>by omega⟩ ⟨.refl _,.refl _,.refl _,.refl _,trivial⟩ (HLe.refl _) ?_
 rintro i ⟨hi,hd⟩
 have hwr:IntKind.i64.wrap ((i:Int)+1)=((i+1:Nat):Int):=by rw [qAe (by omega)];simp
 have hall:(∀ k,k < 6→isDig (s.getD k 0)=true)→s.all isDig=true:=fun h=>by
  rw [List.all_eq_true]
  intro c hc
  obtain ⟨k,hk,rfl⟩:=List.getElem_of_mem hc
  have:=h k (by omega)
  rw [List.getD_eq_getElem?_getD,List.getElem?_eq_getElem hk] at this
  exact this
 have hdr:∀ k,k < i→0≤digD s k∧digD s k≤9:=fun k hk=>by have:=(qBn _).1 (hd k hk);unfold digD;omega
 refine ww ?_
 refine qAa rfl (fun c3=>?_) (fun c3=>?_)
 ·have c3':i < 6:=by simp at c3;omega
  have hsa:strAt s (i:Int)=bI (s.getD i 0):=by unfold strAt bI;rw [List.getD_eq_getElem?_getD,Int.toNat_natCast]
  have hbr:=bI_range (s.getD i 0)
  refine ww ?_
  refine qAa rfl (fun c4=>?_) (fun c4=>?_)
  ·have c4':s.all isDig=false:=by
    rw [hsa] at c4
    have hn:isDig (s.getD i 0)=false:=by
     cases hx:isDig (s.getD i 0) with
     | false=>rfl
     | true=>have:=(qBn _).1 hx;simp only [Bool.or_eq_true,decide_eq_true_eq] at c4;omega
    cases hx:s.all isDig with
    | false=>rfl
    | true =>
     rw [List.all_eq_true] at hx
     have:=hx (s.getD i 0) (by rw [List.getD_eq_getElem?_getD,List.getElem?_eq_getElem (by omega)];exact List.getElem_mem _)
     rw [hn] at this;cases this
   rw [if_pos c4']
   refine ww ?_
   exact wwr
  ·have c4':isDig (s.getD i 0)=true:=by rw [hsa] at c4;exact (qBn _).2 (by simp only [Bool.or_eq_false_iff,decide_eq_false_iff_not] at c4;omega)
   have hdi:=(qBn _).1 c4'
   have hX:∀ p:Int,0≤p∧p≤9→IntKind.i64.wrap (IntKind.i64.wrap (10*p)+IntKind.i64.wrap (IntKind.u8.wrap (strAt s (i:Int)-48)))=10*p+digD s i:=fun p hp=>by
    rw [hsa,wrapu8 (by omega),qAe (n:=10*p) (by omega),qAe (n:=bI (s.getD i 0)-48) (by omega),qAe (by unfold digD at *;omega)];rfl
   have hd':∀ k,k < i+1→isDig (s.getD k 0)=true:=fun k hk=>by
    by_cases h:k=i
    ·rw [h];exact c4'
    ·exact hd k (by omega)
   refine wwe ?_
   have h6:i=0∨i=1∨i=2∨i=3∨i=4∨i=5:=by omega
   rcases h6 with rfl | rfl | rfl | rfl | rfl | rfl
   all_goals
    refine qBg (fun i=>bif Nat.beq i 5||Nat.beq i 14 then [0] else []) (fun i=>bif Nat.beq i 14 then [0] else []) mixed (by kernel_rfl) ?_
    refine wwg ?_
    refine qCb (qAh hT rfl rfl rfl rfl (by decide)) rfl rfl ?_
    refine wwg ?_
    refine qCb (qAh hT rfl rfl rfl rfl (by decide)) rfl rfl ?_
    refine wwg ?_
    refine ww ?_
   ·exact ⟨1,⟨by omega,hd'⟩,by omega,⟨.refl _,.refl _,.refl _,.int hwr,trivial⟩,⟨ObLe.row (by show [AV.d (.int .i64 _),_,_]=_;rw [hX _ (by simp [pN])];simp [pN]),trivial⟩⟩
   ·exact ⟨2,⟨by omega,hd'⟩,by omega,⟨.refl _,.refl _,.refl _,.int hwr,trivial⟩,⟨ObLe.row (by show [AV.d (.int .i64 _),_,_]=_;rw [hX _ (by simp [pN];exact hdr 0 (by omega))];simp [pN]),trivial⟩⟩
   ·exact ⟨3,⟨by omega,hd'⟩,by omega,⟨.refl _,.refl _,.refl _,.int hwr,trivial⟩,⟨ObLe.row (by show [_,AV.d (.int .i64 _),_]=_;rw [hX _ (by simp [pN])];simp [pN]),trivial⟩⟩
   ·exact ⟨4,⟨by omega,hd'⟩,by omega,⟨.refl _,.refl _,.refl _,.int hwr,trivial⟩,⟨ObLe.row (by show [_,AV.d (.int .i64 _),_]=_;rw [hX _ (by simp [pN];exact hdr 2 (by omega))];simp [pN]),trivial⟩⟩
   ·exact ⟨5,⟨by omega,hd'⟩,by omega,⟨.refl _,.refl _,.refl _,.int hwr,trivial⟩,⟨ObLe.row (by show [_,_,AV.d (.int .i64 _)]=_;rw [hX _ (by simp [pN])];simp [pN]),trivial⟩⟩
   ·exact ⟨6,⟨by omega,hd'⟩,by omega,⟨.refl _,.refl _,.refl _,.int hwr,trivial⟩,⟨ObLe.row (by show [_,_,AV.d (.int .i64 _)]=_;rw [hX _ (by simp [pN];exact hdr 4 (by omega))];simp [pN]),trivial⟩⟩
 ·have c3':i=6:=by simp at c3;omega
  subst c3'
  have hal:=hall hd
  rw [if_neg (by rw [hal];simp)]
  have e0:pN s 0 6=pairI s 0:=rfl
  have e2:pN s 2 6=pairI s 2:=rfl
  have e4:pN s 4 6=pairI s 4:=rfl
  have r0:0≤pairI s 0∧pairI s 0≤99:=by have a:=hdr 0 (by omega);have b:=hdr 1 (by omega);unfold digD at a b;unfold pairI;simp only [Nat.zero_add];omega
  rw [e0,e2,e4]
  have ho:=fun y=>Of_spec y (pairI s 2) (pairI s 4)
  generalize pairI s 0=p0 at *
  generalize pairI s 2=p2 at *
  generalize pairI s 4=p4 at *
  have ht:first.tmod 100=first % 100:=Int.tmod_eq_emod_of_nonneg (by omega)
  have hy:IntKind.i64.wrap (IntKind.i64.wrap (first-first.tmod 100)+p0)=first-first.tmod 100+p0:=by rw [qAe (n:=first-first.tmod 100) (by omega),qAe (by omega)]
  have hy2:IntKind.i64.wrap (IntKind.i64.wrap (IntKind.i64.wrap (first-first.tmod 100)+p0)+100)=first-first.tmod 100+p0+100:=by rw [hy,qAe (by omega)]
  refine ww ?_
  first | refine qAd (qAc (qAh hT rfl rfl rfl rfl (by decide))) rfl ?_ | refine qAp (qAc (qAh hT rfl rfl rfl rfl (by decide))) rfl rfl ?_
  refine wws ?_
  refine qBa (ι:=Unit) (fun _=>[(6,.ptr 0 0),(8,.d (.int .i64 (if first-first.tmod 100+p0 < first then first-first.tmod 100+p0+100 else first-first.tmod 100+p0)))]) (fun _=>[.row [.d (.int .i64 p0),.d (.int .i64 p2),.d (.int .i64 p4)]]) (fun _=>True) ?_ (fun _ _=>?_)
  ·refine ww ?_
   refine qAa rfl (fun c5=>?_) (fun c5=>?_)
   ·have c5':first-first.tmod 100+p0 < first:=by rw [hy] at c5;simpa using c5
    rw [if_pos c5']
    refine ww ?_
    exact ⟨(),trivial,⟨.refl _,.int hy2,trivial⟩,HLe.refl _⟩
   ·have c5':¬ first-first.tmod 100+p0 < first:=by rw [hy] at c5;simpa using c5
    rw [if_neg c5']
    refine ww ?_
    exact ⟨(),trivial,⟨.refl _,.int hy,trivial⟩,HLe.refl _⟩
  ·have ho:=ho (if first-first.tmod 100+p0 < first then first-first.tmod 100+p0+100 else first-first.tmod 100+p0)
   simp only
   generalize (if first-first.tmod 100+p0 < first then first-first.tmod 100+p0+100 else first-first.tmod 100+p0)=y at ho
   refine ww ?_
   first | refine qAd (qAc (qAh hT rfl rfl rfl rfl (by decide))) rfl ?_ | refine qAp (qAc (qAh hT rfl rfl rfl rfl (by decide))) rfl rfl ?_
   refine ww ?_
   first | refine qAd (qAc (qAh hT rfl rfl rfl rfl (by decide))) rfl ?_ | refine qAp (qAc (qAh hT rfl rfl rfl rfl (by decide))) rfl rfl ?_
   refine ww ?_
   refine wwc ho ?_
   refine ww ?_
   exact wwr
end Tdoc
namespace Tdoc
open Go Go.Proofs
def lensD:List Dat:=[.int .i64 31,.int .i64 28,.int .i64 31,.int .i64 30,.int .i64 31,.int .i64 30,.int .i64 31,.int .i64 31,.int .i64 30,.int .i64 31,.int .i64 30,.int .i64 31]
theorem lensD_at {y m:Int} (hm:1≤m∧m≤12) (h:¬ (m=2∧leapR y=true)):lensD[(m-1).toNat]?=some (.int .i64 (longR y m)):=by
 have h12:m=1∨m=2∨m=3∨m=4∨m=5∨m=6∨m=7∨m=8∨m=9∨m=10∨m=11∨m=12:=by omega
 unfold longR
 rcases h12 with rfl | rfl | rfl | rfl | rfl | rfl | rfl | rfl | rfl | rfl | rfl | rfl
 all_goals first | rfl | (have hl:leapR y=false:=by simpa using h
                          rw [hl];rfl)
theorem leapP_spec (y:Int) (hy:1900≤y∧y≤2099):Spec Tryz.prog 277 [.d (.int .i64 y)] [] (fun r h'=>r=.d (.bool (leapR y))∧h'=[]):=by
 have e1:y.tmod 4=y % 4:=Int.tmod_eq_emod_of_nonneg (by omega)
 have e2:y.tmod 100=y % 100:=Int.tmod_eq_emod_of_nonneg (by omega)
 have e3:y.tmod 400=y % 400:=Int.tmod_eq_emod_of_nonneg (by omega)
 have hl:leapR y=(y.tmod 4 == 0&&(y.tmod 100 != 0||y.tmod 400 == 0)):=by
  unfold leapR
  rw [e1,e2,e3,Bool.eq_iff_iff]
  simp only [Bool.and_eq_true,decide_eq_true_eq,beq_iff_eq,Bool.or_eq_true,bne_iff_ne,ne_eq]
  omega
 rw [hl]
 refine qAb hT Tryz.func277 rfl rfl rfl rfl ?_;intro E hE
 refine ww ?_
 exact wwr
theorem daysP_spec (y m:Int) (hy:1900≤y∧y≤2099) (hm:1≤m∧m≤12):Spec Tryz.prog 264 [.d (.int .i64 y),.d (.int .i64 m)] [] (fun r h'=>r=.d (.int .i64 (longR y m))∧h'=[]):=by
 have hlp:=leapP_spec y hy
 have hat:=lensD_at (y:=y) hm
 have h29:m=2→leapR y=true→longR y m=29:=fun h1 h2=>by unfold longR;rw [h1,h2];rfl
 generalize leapR y=lp at hlp hat h29
 generalize longR y m=lg at hat h29
 have hwr:IntKind.i64.wrap (m-1)=m-1:=qAe (by omega)
 refine qAb hT Tryz.func264 rfl rfl rfl rfl ?_;intro E hE
 refine ww ?_
 refine wwgc hlp ?_
 refine ww ?_
 refine qAa rfl (fun c1=>?_) (fun c1=>?_)
 ·have c1':m=2∧lp=true:=by simpa using c1
  rw [h29 c1'.1 c1'.2]
  refine ww ?_
  exact wwr
 ·have c1':¬ (m=2∧lp=true):=by simpa using c1
  have hd:=hat c1'
  refine ww ?_
  refine qAd (qAc (arrAddr_ok (cs:=lensD) hT rfl rfl rfl rfl (by rw [hwr];omega))) rfl ?_
  rw [hwr,Nat.mul_one]
  generalize hcs:lensD.drop (m-1).toNat=cs
  have hd0:cs[0]?=some (.int .i64 lg):=by rw [← hcs];simpa using hd
  match cs,hd0 with
  | d::cs,hd0 =>
   simp only [List.getElem?_cons_zero,Option.some.injEq] at hd0
   subst hd0
   refine ww ?_
   exact wwr
theorem beforeP_spec (n:Nat) (hn:n≤200):Spec Tryz.prog 265 [.d (.int .i64 (1900+(n:Int)))] [] (fun r h'=>r=.d (.int .i64 (yearsR n))∧h'=[]):=by
 have hw0:IntKind.i64.wrap (365*IntKind.i64.wrap (1900+(n:Int)-1900))=365*(n:Int):=by rw [qAe (n:=1900+(n:Int)-1900) (by omega),qAe (by omega)];omega
 refine qAb hT Tryz.func265 rfl rfl rfl rfl ?_;intro E hE
 refine ww ?_
 refine qAq (ι:=Nat) (fun k=>[(0,.d (.int .i64 (1900+(n:Int)))),(3,.d (.int .i64 (365*(n:Int)+(yearsR k-365*(k:Int))))),(4,.d (.int .i64 (1900+(k:Int))))]) (fun _=>[]) (fun k=>k≤n) (fun k=>n-k) 0 (by omega) ⟨.refl _,.int (by rw [hw0];simp [yearsR]),.refl _,trivial⟩ (HLe.refl _) ?_
 intro k hk
 have hyr:=yearsR_range k
 have hw1:IntKind.i64.wrap (1900+(k:Int)+1)=1900+((k+1:Nat):Int):=by rw [qAe (by omega)];omega
 have hys:yearsR (k+1)=yearsR k+365+(if leapR (1900+(k:Int))=true then 1 else 0):=rfl
 refine ww ?_
 refine qAa rfl (fun c2=>?_) (fun c2=>?_)
 ·have c2':k < n:=by simp at c2;omega
  have hlp:=leapP_spec (1900+(k:Int)) (by omega)
  have hlow:365*(k:Int)≤yearsR k:=by
   clear hlp hys hw1 c2 c2' hyr hw0 hE
   induction k with
   | zero=>simp [yearsR]
   | succ k ih=>have:=ih (by omega);rw [yearsR];split <;> omega
  have hw3:IntKind.i64.wrap (365*(n:Int)+(yearsR k-365*(k:Int))+1)=365*(n:Int)+(yearsR k-365*(k:Int))+1:=qAe (by omega)
  generalize leapR (1900+(k:Int))=lp at hlp hys
  refine ww ?_
  refine wwc hlp ?_
  refine ww ?_
  refine qAa rfl (fun c3=>?_) (fun c3=>?_)
  ·rw [if_pos c3] at hys
   refine ww ?_
   exact ⟨k+1,by omega,by omega,⟨.refl _,.int (by rw [hw3,hys];omega),.int hw1,trivial⟩,HLe.refl _⟩
  ·rw [if_neg (by simp [c3])] at hys
   refine ww ?_
   exact ⟨k+1,by omega,by omega,⟨.refl _,.int (by rw [hys];omega),.int hw1,trivial⟩,HLe.refl _⟩
 ·have c2':k=n:=by simp at c2;omega
  subst c2'
  have he:365*(k:Int)+(yearsR k-365*(k:Int))=yearsR k:=by omega
  rw [he]
  refine ww ?_
  exact wwr
theorem OfP_spec (y m d:Int) (hb : -1000000≤d∧d≤1000000):Spec Tryz.prog 239 [.d (.int .i64 y),.d (.int .i64 m),.d (.int .i64 d)] [] (fun r h'=>r=.tup [.d (.int .i64 (ofF y m d).1),.d (.int .i64 (ofF y m d).2)]∧h'=[]):=by
 unfold ofF
 have hlr:=qCi y m
 have hlg:1900≤y∧y≤2099→1≤m∧m≤12→_:=daysP_spec y m
 generalize hlm:longR y m=lm at hlg hlr
 refine qAb hT Tryz.func239 rfl rfl rfl rfl ?_;intro E hE
 refine ww ?_
 refine qBq rfl rfl rfl (fun hg=>⟨(sg (C:=True) hg).1,callS0 rfl rfl (hlg (by simp [gval] at hg;omega) (by simp [gval] at hg;omega)) rfl rfl rfl⟩) ?_
 refine ww ?_
 refine qAa rfl (fun c1=>?_) (fun c1=>?_)
 ·have c1':y < 1900∨y > 2099∨m < 1∨m > 12∨d < 1∨d > lm:=by simp at c1;omega
  rw [if_pos c1']
  refine ww ?_
  exact wwr
 ·have c1':¬ (y < 1900∨y > 2099∨m < 1∨m > 12∨d < 1∨d > lm):=by simp at c1;omega
  rw [if_neg c1']
  obtain ⟨yn,rfl⟩:∃ yn:Nat,y=1900+(yn:Int):=⟨(y-1900).toNat,by omega⟩
  obtain ⟨mn,rfl⟩:∃ mn:Nat,m=(mn:Int)+1:=⟨(m-1).toNat,by omega⟩
  rw [show (1900+(yn:Int)-1900).toNat=yn by omega,show ((mn:Int)+1-1).toNat=mn by omega]
  have hbf:=beforeP_spec yn (by omega)
  have hyr:=yearsR_range yn
  have hwd:IntKind.i64.wrap (IntKind.i64.wrap (yearsR yn+d)-1)=yearsR yn+d-1:=by rw [qAe (n:=yearsR yn+d) (by omega),qAe (by omega)]
  refine ww ?_
  refine wwc hbf ?_
  refine ww ?_
  refine qAq (ι:=Nat) (fun i=>[(0,.d (.int .i64 (1900+(yn:Int)))),(1,.d (.int .i64 ((mn:Int)+1))),(8,.d (.int .i64 (d-1+yearsR yn+monthsR (1900+(yn:Int)) i))),(9,.d (.int .i64 ((i:Int)+1)))]) (fun _=>[]) (fun i=>i≤mn) (fun i=>mn-i) 0 (by omega) ⟨.refl _,.refl _,.int (by rw [hwd];simp [monthsR];omega),.refl _,trivial⟩ (HLe.refl _) ?_
  intro i hi
  have hmr:=monthsR_range (1900+(yn:Int)) i
  have hw4:IntKind.i64.wrap ((i:Int)+1+1)=((i+1:Nat):Int)+1:=by rw [qAe (by omega)];omega
  refine ww ?_
  refine qAa rfl (fun c4=>?_) (fun c4=>?_)
  ·have c4':i < mn:=by simp at c4;omega
   have hlg:=daysP_spec (1900+(yn:Int)) ((i:Int)+1) (by omega) (by omega)
   have hlr2:=qCi (1900+(yn:Int)) ((i:Int)+1)
   have hms:monthsR (1900+(yn:Int)) (i+1)=monthsR (1900+(yn:Int)) i+longR (1900+(yn:Int)) ((i:Int)+1):=rfl
   generalize longR (1900+(yn:Int)) ((i:Int)+1)=lg at hlg hlr2 hms
   have hw5:IntKind.i64.wrap (d-1+yearsR yn+monthsR (1900+(yn:Int)) i+lg)=d-1+yearsR yn+monthsR (1900+(yn:Int)) (i+1):=by rw [qAe (by omega),hms];omega
   refine ww ?_
   refine wwc hlg ?_
   refine ww ?_
   exact ⟨i+1,by omega,by omega,⟨.refl _,.refl _,.int hw5,.int hw4,trivial⟩,HLe.refl _⟩
  ·have c4':i=mn:=by simp at c4;omega
   subst c4'
   refine ww ?_
   exact wwr
theorem dayParseP_spec (s:List UInt8) (first:Int) (hs:s.length≤1000000):Spec Tryz.prog 183 [.d (.str s),.d (.int .i64 first)] [] (fun r h'=>r=.tup [.d (.int .i64 (dayParse s first).1),.d (.int .i64 (dayParse s first).2)]∧h'=[]):=by
 unfold dayParse
 refine qAb hT Tryz.func183 rfl rfl rfl rfl ?_;intro E hE
 refine ww ?_
 refine qAa rfl (fun c1=>?_) (fun c1=>?_)
 ·have c1':first < 1900∨first > 2000:=by simpa using c1
  rw [if_pos c1']
  refine ww ?_
  exact wwr
 have c1':¬ (first < 1900∨first > 2000):=by simpa using c1
 rw [if_neg c1']
 refine ww ?_
 refine qAa rfl (fun c2=>?_) (fun c2=>?_)
 ·have c2':s.length≠6:=by simp at c2;omega
  rw [if_pos c2']
  refine ww ?_
  exact wwr
 have c2':¬ s.length≠6:=by simp at c2;omega
 have hlen:s.length=6:=by omega
 rw [if_neg c2']
 refine ww ?_
 refine qAq (ι:=Nat) (fun i=>[(0,.d (.str s)),(1,.d (.int .i64 first)),(6,.ptr 0 0),(19,.d (.int .i64 (s.length:Int))),(20,.d (.int .i64 (i:Int)))]) (fun i=>[.row [.d (.int .i64 (pN s 0 i)),.d (.int .i64 (pN s 2 i)),.d (.int .i64 (pN s 4 i))]]) (fun i=>i≤6∧∀ k,k < i→isDig (s.getD k 0)=true) (fun i=>6-i) 0 ⟨by omega,fun k hk=>by omega⟩ ⟨.refl _,.refl _,.refl _,.refl _,.refl _,trivial⟩ (HLe.refl _) ?_
 rintro i ⟨hi,hd⟩
 have hwr:IntKind.i64.wrap ((i:Int)+1)=((i+1:Nat):Int):=by rw [qAe (by omega)];simp
 have hall:(∀ k,k < 6→isDig (s.getD k 0)=true)→s.all isDig=true:=fun h=>by
  rw [List.all_eq_true]
  intro c hc
  obtain ⟨k,hk,rfl⟩:=List.getElem_of_mem hc
  have:=h k (by omega)
  rw [List.getD_eq_getElem?_getD,List.getElem?_eq_getElem hk] at this
  exact this
 have hdr:∀ k,k < i→0≤digD s k∧digD s k≤9:=fun k hk=>by have:=(qBn _).1 (hd k hk);unfold digD;omega
 refine ww ?_
 refine qAa rfl (fun c3=>?_) (fun c3=>?_)
 ·have c3':i < 6:=by simp at c3;omega
  have hsa:strAt s (i:Int)=bI (s.getD i 0):=by unfold strAt bI;rw [List.getD_eq_getElem?_getD,Int.toNat_natCast]
  have hbr:=bI_range (s.getD i 0)
  refine ww ?_
  refine qAa rfl (fun c4=>?_) (fun c4=>?_)
  ·have c4':s.all isDig=false:=by
    rw [hsa] at c4
    have hn:isDig (s.getD i 0)=false:=by
     cases hx:isDig (s.getD i 0) with
     | false=>rfl
     | true=>have:=(qBn _).1 hx;simp only [Bool.or_eq_true,decide_eq_true_eq] at c4;omega
    cases hx:s.all isDig with
    | false=>rfl
    | true =>
     rw [List.all_eq_true] at hx
     have:=hx (s.getD i 0) (by rw [List.getD_eq_getElem?_getD,List.getElem?_eq_getElem (by omega)];exact List.getElem_mem _)
     rw [hn] at this;cases this
   rw [if_pos c4']
   refine ww ?_
   exact wwr
  ·have c4':isDig (s.getD i 0)=true:=by rw [hsa] at c4;exact (qBn _).2 (by simp only [Bool.or_eq_false_iff,decide_eq_false_iff_not] at c4;omega)
   have hdi:=(qBn _).1 c4'
   have hX:∀ p:Int,0≤p∧p≤9→IntKind.i64.wrap (IntKind.i64.wrap (10*p)+IntKind.i64.wrap (IntKind.u8.wrap (strAt s (i:Int)-48)))=10*p+digD s i:=fun p hp=>by
    rw [hsa,wrapu8 (by omega),qAe (n:=10*p) (by omega),qAe (n:=bI (s.getD i 0)-48) (by omega),qAe (by unfold digD at *;omega)];rfl
   have hd':∀ k,k < i+1→isDig (s.getD k 0)=true:=fun k hk=>by
    by_cases h:k=i
    ·rw [h];exact c4'
    ·exact hd k (by omega)
   refine wwe ?_
   have h6:i=0∨i=1∨i=2∨i=3∨i=4∨i=5:=by omega
   rcases h6 with rfl | rfl | rfl | rfl | rfl | rfl
   all_goals
    refine qBg (fun i=>bif Nat.beq i 5||Nat.beq i 14 then [0] else []) (fun i=>bif Nat.beq i 14 then [0] else []) mixed (by kernel_rfl) ?_
    refine wwg ?_
    refine qCb (qAh hT rfl rfl rfl rfl (by decide)) rfl rfl ?_
    refine wwg ?_
    refine qCb (qAh hT rfl rfl rfl rfl (by decide)) rfl rfl ?_
    refine wwg ?_
    refine ww ?_
   ·exact ⟨1,⟨by omega,hd'⟩,by omega,⟨.refl _,.refl _,.refl _,.refl _,.int hwr,trivial⟩,⟨ObLe.row (by show [AV.d (.int .i64 _),_,_]=_;rw [hX _ (by simp [pN])];simp [pN]),trivial⟩⟩
   ·exact ⟨2,⟨by omega,hd'⟩,by omega,⟨.refl _,.refl _,.refl _,.refl _,.int hwr,trivial⟩,⟨ObLe.row (by show [AV.d (.int .i64 _),_,_]=_;rw [hX _ (by simp [pN];exact hdr 0 (by omega))];simp [pN]),trivial⟩⟩
   ·exact ⟨3,⟨by omega,hd'⟩,by omega,⟨.refl _,.refl _,.refl _,.refl _,.int hwr,trivial⟩,⟨ObLe.row (by show [_,AV.d (.int .i64 _),_]=_;rw [hX _ (by simp [pN])];simp [pN]),trivial⟩⟩
   ·exact ⟨4,⟨by omega,hd'⟩,by omega,⟨.refl _,.refl _,.refl _,.refl _,.int hwr,trivial⟩,⟨ObLe.row (by show [_,AV.d (.int .i64 _),_]=_;rw [hX _ (by simp [pN];exact hdr 2 (by omega))];simp [pN]),trivial⟩⟩
   ·exact ⟨5,⟨by omega,hd'⟩,by omega,⟨.refl _,.refl _,.refl _,.refl _,.int hwr,trivial⟩,⟨ObLe.row (by show [_,_,AV.d (.int .i64 _)]=_;rw [hX _ (by simp [pN])];simp [pN]),trivial⟩⟩
   ·exact ⟨6,⟨by omega,hd'⟩,by omega,⟨.refl _,.refl _,.refl _,.refl _,.int hwr,trivial⟩,⟨ObLe.row (by show [_,_,AV.d (.int .i64 _)]=_;rw [hX _ (by simp [pN];exact hdr 4 (by omega))];simp [pN]),trivial⟩⟩
 ·have c3':i=6:=by simp at c3;omega
  subst c3'
  have hal:=hall hd
  rw [if_neg (by rw [hal];simp)]
  have e0:pN s 0 6=pairI s 0:=rfl
  have e2:pN s 2 6=pairI s 2:=rfl
  have e4:pN s 4 6=pairI s 4:=rfl
  have r0:0≤pairI s 0∧pairI s 0≤99:=by have a:=hdr 0 (by omega);have b:=hdr 1 (by omega);unfold digD at a b;unfold pairI;simp only [Nat.zero_add];omega
  rw [e0,e2,e4]
  have r4:0≤pairI s 4∧pairI s 4≤99:=by have a:=hdr 4 (by omega);have b:=hdr 5 (by omega);unfold digD at a b;unfold pairI;simp only [Nat.reduceAdd];omega
  have ho:=fun y=>OfP_spec y (pairI s 2) (pairI s 4) (by omega)
  generalize pairI s 0=p0 at *
  generalize pairI s 2=p2 at *
  generalize pairI s 4=p4 at *
  have ht:first.tmod 100=first % 100:=Int.tmod_eq_emod_of_nonneg (by omega)
  have hy:IntKind.i64.wrap (IntKind.i64.wrap (first-first.tmod 100)+p0)=first-first.tmod 100+p0:=by rw [qAe (n:=first-first.tmod 100) (by omega),qAe (by omega)]
  have hy2:IntKind.i64.wrap (IntKind.i64.wrap (IntKind.i64.wrap (first-first.tmod 100)+p0)+100)=first-first.tmod 100+p0+100:=by rw [hy,qAe (by omega)]
  refine ww ?_
  first | refine qAd (qAc (qAh hT rfl rfl rfl rfl (by decide))) rfl ?_ | refine qAp (qAc (qAh hT rfl rfl rfl rfl (by decide))) rfl rfl ?_
  refine wws ?_
  refine qBa (ι:=Unit) (fun _=>[(6,.ptr 0 0),(8,.d (.int .i64 (if first-first.tmod 100+p0 < first then first-first.tmod 100+p0+100 else first-first.tmod 100+p0)))]) (fun _=>[.row [.d (.int .i64 p0),.d (.int .i64 p2),.d (.int .i64 p4)]]) (fun _=>True) ?_ (fun _ _=>?_)
  ·refine ww ?_
   refine qAa rfl (fun c5=>?_) (fun c5=>?_)
   ·have c5':first-first.tmod 100+p0 < first:=by rw [hy] at c5;simpa using c5
    rw [if_pos c5']
    refine ww ?_
    exact ⟨(),trivial,⟨.refl _,.int hy2,trivial⟩,HLe.refl _⟩
   ·have c5':¬ first-first.tmod 100+p0 < first:=by rw [hy] at c5;simpa using c5
    rw [if_neg c5']
    refine ww ?_
    exact ⟨(),trivial,⟨.refl _,.int hy,trivial⟩,HLe.refl _⟩
  ·have ho:=ho (if first-first.tmod 100+p0 < first then first-first.tmod 100+p0+100 else first-first.tmod 100+p0)
   simp only
   generalize (if first-first.tmod 100+p0 < first then first-first.tmod 100+p0+100 else first-first.tmod 100+p0)=y at ho
   refine ww ?_
   first | refine qAd (qAc (qAh hT rfl rfl rfl rfl (by decide))) rfl ?_ | refine qAp (qAc (qAh hT rfl rfl rfl rfl (by decide))) rfl rfl ?_
   refine ww ?_
   first | refine qAd (qAc (qAh hT rfl rfl rfl rfl (by decide))) rfl ?_ | refine qAp (qAc (qAh hT rfl rfl rfl rfl (by decide))) rfl rfl ?_
   refine ww ?_
   refine wwc ho ?_
   refine ww ?_
   exact wwr
end Tdoc
namespace Tdoc
open Go Go.Proofs
theorem isUp_iff (c:UInt8):isUp c=true↔65≤bI c∧bI c≤90:=by simp [isUp]
theorem all_split {p:UInt8→Bool} {s:List UInt8} {i:Nat} (h:i < s.length):(s.drop i).all p=(p s[i]&&(s.drop (i+1)).all p):=by rw [drop_cons h,List.all_cons]
theorem letters_spec (s:List UInt8) (most:Int) (hs:s.length≤1000000):Spec Tryz.prog 166 [.d (.str s),.d (.int .i64 most)] [] (fun r h'=>r=.d (.bool (lettersF s most))∧h'=[]):=by
 generalize hfin:lettersF s most=fin
 unfold lettersF at hfin
 refine qAb hT Tryz.func166 rfl rfl rfl rfl ?_;intro E hE
 refine ww ?_
 refine qAa rfl (fun c1=>?_) (fun c1=>?_)
 ·have c1':¬ (1≤s.length∧(s.length:Int)≤most):=by simp at c1;omega
  rw [decide_eq_false c1',Bool.false_and] at hfin
  subst hfin
  refine ww ?_
  exact wwr
 have c1':1≤s.length∧(s.length:Int)≤most:=by simp at c1;omega
 rw [decide_eq_true c1',Bool.true_and] at hfin
 refine ww ?_
 refine qAq (ι:=Nat) (fun i=>[(0,.d (.str s)),(5,.d (.int .i64 (i:Int)))]) (fun _=>[]) (fun i=>i≤s.length∧(s.drop i).all isUp=fin) (fun i=>s.length-i) 0 ⟨by omega,by simpa using hfin⟩ ⟨.refl _,.refl _,trivial⟩ (HLe.refl _) ?_
 rintro i ⟨hi,hg⟩
 have hwr:IntKind.i64.wrap ((i:Int)+1)=((i+1:Nat):Int):=by rw [qAe (by omega)];simp
 refine ww ?_
 refine qAa rfl (fun c2=>?_) (fun c2=>?_)
 ·have c2':i < s.length:=by simpa using c2
  have hsa:=qCp c2'
  rw [all_split c2'] at hg
  generalize s[i]=c at hsa hg
  refine ww ?_
  refine qAa rfl (fun c3=>?_) (fun c3=>?_)
  ·have c3':isUp c=false:=by
    rw [hsa] at c3
    cases hx:isUp c with
    | false=>rfl
    | true=>have:=(isUp_iff _).1 hx;simp only [Bool.or_eq_true,decide_eq_true_eq] at c3;omega
   rw [c3',Bool.false_and] at hg
   subst hg
   refine ww ?_
   exact wwr
  ·have c3':isUp c=true:=by rw [hsa] at c3;exact (isUp_iff _).2 (by simp only [Bool.or_eq_false_iff,decide_eq_false_iff_not] at c3;omega)
   rw [c3',Bool.true_and] at hg
   refine ww ?_
   exact ⟨i+1,⟨by omega,hg⟩,by omega,⟨.refl _,.int hwr,trivial⟩,HLe.refl _⟩
 ·have c2':i=s.length:=by simp at c2;omega
  subst c2'
  rw [List.drop_length,List.all_nil] at hg
  subst hg
  refine ww ?_
  exact wwr
theorem plain_spec (s:List UInt8) (hs:s.length≤1000000):Spec Tryz.prog 168 [.d (.str s)] [] (fun r h'=>r=.d (.bool (plainF s))∧h'=[]):=by
 generalize hfin:plainF s=fin
 unfold plainF at hfin
 refine qAb hT Tryz.func168 rfl rfl rfl rfl ?_;intro E hE
 refine ww ?_
 refine qAq (ι:=Nat) (fun i=>[(0,.d (.str s)),(3,.d (.int .i64 (i:Int)))]) (fun _=>[]) (fun i=>i≤s.length∧(s.drop i).all (fun c=>decide (c≠60∧0≤valC (bI c)))=fin) (fun i=>s.length-i) 0 ⟨by omega,by simpa using hfin⟩ ⟨.refl _,.refl _,trivial⟩ (HLe.refl _) ?_
 rintro i ⟨hi,hg⟩
 have hwr:IntKind.i64.wrap ((i:Int)+1)=((i+1:Nat):Int):=by rw [qAe (by omega)];simp
 refine ww ?_
 refine qAa rfl (fun c2=>?_) (fun c2=>?_)
 ·have c2':i < s.length:=by simpa using c2
  have hsa:=qCp c2'
  rw [all_split c2'] at hg
  have hr:=bI_range s[i]
  have hc:bI s[i]=60↔s[i]=60:=byte_eq (c:=s[i]) (d:=60)
  generalize s[i]=c at hsa hg hr hc
  have hv:=Value_spec (strAt s (i:Int)) (by rw [hsa];exact hr)
  refine ww ?_
  refine wwgc hv ?_
  refine ww ?_
  refine qAa rfl (fun c3=>?_) (fun c3=>?_)
  ·have c3':¬ (c≠60∧0≤valC (bI c)):=by
    rw [hsa] at c3
    simp only [Bool.or_eq_true,decide_eq_true_eq,beq_iff_eq] at c3
    rintro ⟨g1,g2⟩
    rcases c3 with h | h
    ·exact g1 (hc.1 h)
    ·omega
   rw [decide_eq_false c3',Bool.false_and] at hg
   subst hg
   refine ww ?_
   exact wwr
  ·have c3':c≠60∧0≤valC (bI c):=by
    rw [hsa] at c3
    simp only [Bool.or_eq_false_iff,decide_eq_false_iff_not,beq_eq_false_iff_ne] at c3
    exact ⟨fun h=>c3.1 (hc.2 h),by omega⟩
   rw [decide_eq_true c3',Bool.true_and] at hg
   refine ww ?_
   exact ⟨i+1,⟨by omega,hg⟩,by omega,⟨.refl _,.int hwr,trivial⟩,HLe.refl _⟩
 ·have c2':i=s.length:=by simp at c2;omega
  subst c2'
  rw [List.drop_length,List.all_nil] at hg
  subst hg
  refine ww ?_
  exact wwr
theorem pair_spec (a b:UInt8):Spec Tryz.prog 232 [.d (.str [a,b])] [] (fun r h'=>r=.d (.int .i64 (pairF [a,b]))∧h'=[]):=by
 have ha:=bI_range a
 have hb:=bI_range b
 have sa:strAt [a,b] 0=bI a:=rfl
 have sb:strAt [a,b] 1=bI b:=rfl
 have hpi:pairI [a,b] 0=10*(bI a-48)+(bI b-48):=rfl
 have hga:isDig ([a,b].getD 0 0)=isDig a:=rfl
 have hgb:isDig ([a,b].getD 1 0)=isDig b:=rfl
 have hl:[a,b].length=2:=rfl
 unfold pairF
 rw [hpi,hga,hgb]
 clear hpi hga hgb
 generalize [a,b]=s at sa sb hl ⊢
 refine qAb hT Tryz.func232 rfl rfl rfl rfl ?_;intro E hE
 refine ww ?_
 refine qAa rfl (fun c1=>?_) (fun c1=>?_)
 ·have c1':s=[60,60]:=by simpa using c1
  rw [if_pos c1']
  refine ww ?_
  exact wwr
 have c1':¬ s=[60,60]:=by simpa using c1
 rw [if_neg c1']
 refine ww ?_
 refine qAa rfl (fun c2=>?_) (fun c2=>?_)
 ·have c2':¬ (isDig a=true∧isDig b=true):=by
   rintro ⟨g1,g2⟩
   have h1:=(qBn _).1 g1
   have h2:=(qBn _).1 g2
   rw [sa,sb] at c2
   simp only [Bool.or_eq_true,decide_eq_true_eq] at c2
   omega
  rw [if_neg c2']
  refine ww ?_
  exact wwr
 ·have c2':48≤bI a∧bI a≤57∧48≤bI b∧bI b≤57:=by
   rw [sa,sb] at c2
   simp only [Bool.or_eq_false_iff,decide_eq_false_iff_not] at c2
   omega
  rw [if_pos ⟨(qBn _).2 (by omega),(qBn _).2 (by omega)⟩]
  have hw:IntKind.i64.wrap (IntKind.i64.wrap (10*IntKind.i64.wrap (IntKind.u8.wrap (strAt s 0-48)))+IntKind.i64.wrap (IntKind.u8.wrap (strAt s 1-48)))=10*(bI a-48)+(bI b-48):=by
   rw [sa,sb,wrapu8 (n:=bI a-48) (by omega),wrapu8 (n:=bI b-48) (by omega),qAe (n:=bI a-48) (by omega),qAe (n:=bI b-48) (by omega),qAe (n:=10*(bI a-48)) (by omega),qAe (by omega)]
  refine ww ?_
  exact wwr
theorem six {s:List UInt8} (h:s.length=6):∃ a b c d e f,s=[a,b,c,d,e,f]:=by
 match s,h with
 | [a,b,c,d,e,f],_=>exact ⟨a,b,c,d,e,f,rfl⟩
theorem birth_spec (s:List UInt8):Spec Tryz.prog 169 [.d (.str s)] [] (fun r h'=>r=.d (.bool (birthF s))∧h'=[]):=by
 generalize hfin:birthF s=fin
 unfold birthF at hfin
 refine qAb hT Tryz.func169 rfl rfl rfl rfl ?_;intro E hE
 refine ww ?_
 refine qAa rfl (fun c1=>?_) (fun c1=>?_)
 ·have c1':¬ s.length=6:=by simp at c1;omega
  rw [decide_eq_false c1',Bool.false_and] at hfin
  subst hfin
  refine ww ?_
  exact wwr
 have c1':s.length=6:=by simp at c1;omega
 rw [decide_eq_true c1',Bool.true_and] at hfin
 obtain ⟨a,b,c,d,e,f,rfl⟩:=six c1'
 have h1:=pair_spec a b
 have h2:=pair_spec c d
 have h3:=pair_spec e f
 rw [show ([a,b,c,d,e,f].take 2)=[a,b] from rfl,show (([a,b,c,d,e,f].take 4).drop 2)=[c,d] from rfl,show ([a,b,c,d,e,f].drop 4)=[e,f] from rfl] at hfin
 generalize pairF [a,b]=p1 at h1 hfin
 generalize pairF [c,d]=p2 at h2 hfin
 generalize pairF [e,f]=p3 at h3 hfin
 subst hfin
 refine ww ?_
 refine wwc h1 ?_
 refine ww ?_
 refine wwc h2 ?_
 refine ww ?_
 refine wwc h3 ?_
 refine ww ?_
 refine rq ⟨rfl,rfl⟩ rfl (.bool ?_)
 by_cases g1:p1 > -2 <;> by_cases g2:p2 = -1 <;> by_cases g3:1≤p2 <;> by_cases g4:p2≤12 <;> by_cases g5:p3 = -1 <;> by_cases g6:1≤p3 <;> by_cases g7:p3≤31 <;> simp [g1,g2,g3,g4,g5,g6,g7] <;> omega
theorem extra_spec (s:List UInt8) (hs:s.length≤1000000):Spec Tryz.prog 171 [.d (.str s)] [] (fun r h'=>r=.d (.bool (extraF s))∧h'=[]):=by
 have hv:=ValidS_spec s hs
 unfold extraF
 generalize validS s=ok at hv
 match s with
 | [] =>
  refine qAb hT Tryz.func171 rfl rfl rfl rfl ?_;intro E hE
  refine ww ?_
  refine wwc hv ?_
  refine ww ?_
  refine AWk_gstep hT rfl rfl rfl rfl (fun hg=>absurd hg (by simp [gval])) ?_
  refine ww ?_
  refine AWk_gstep hT rfl rfl rfl rfl (fun hg=>absurd hg (by simp [gval])) ?_
  refine ww ?_
  refine rq ⟨rfl,rfl⟩ rfl (.bool ?_)
  simp
 | c::t =>
  have sa:strAt (c::t) 0=bI c:=rfl
  have hlen:(c::t).length=t.length+1:=rfl
  have hlast:(c::t).getLast?=some ((c::t)[t.length]'(by simp)):=by
   rw [List.getLast?_eq_getElem?,List.length_cons,Nat.add_sub_cancel,List.getElem?_eq_getElem]
  have sb:=qCp (s:=c::t) (i:=t.length) (by simp)
  rw [hlast,show (c::t).head?=some c from rfl,show decide (c::t=[])=false from rfl,Bool.false_or]
  generalize (c::t)[t.length]'(by simp)=e at sb
  have hce:bI e=60↔e=60:=byte_eq (c:=e) (d:=60)
  have hcc:bI c=60↔c=60:=byte_eq (c:=c) (d:=60)
  have hne:¬ c::t=[]:=by simp
  clear hlast
  generalize c::t=s at hv hs sa hlen sb hne ⊢
  have hwl:IntKind.i64.wrap ((s.length:Int)-1)=((t.length:Nat):Int):=by rw [qAe (by omega)];omega
  refine qAb hT Tryz.func171 rfl rfl rfl rfl ?_;intro E hE
  refine ww ?_
  refine wwc hv ?_
  refine ww ?_
  refine rq ⟨rfl,rfl⟩ rfl (.bool ?_)
  rw [hwl,sa,sb]
  cases ok <;> by_cases g1:c=60 <;> by_cases g2:e=60 <;> simp [g1,g2,hcc,hce,hne,show bI 60=60 from rfl]
end Tdoc
namespace Tdoc
open Go Go.Proofs
def zLen (z:Zon):Prop:=z.kind.length≤10000∧z.state.length≤10000∧z.sur.length≤10000∧z.giv.length≤10000∧z.num.length≤10000∧z.nat.length≤10000∧z.bir.length≤10000∧z.sex.length≤10000∧z.exp.length≤10000∧z.opt.length≤10000∧z.sec.length≤10000
theorem room_spec (z:Zon) (h1:1≤z.fmt∧z.fmt≤3) (hn:z.num.length≤1000000):Spec Tryz.prog 172 [zAV z] [] (fun r h'=>r=.d (.int .i64 (roomF z))∧h'=[]):=by
 obtain ⟨fmt,kind,state,sur,giv,num,nat,bir,sex,exp,opt,sec⟩:=z
 unfold roomF zAV zCells
 simp only at h1 hn ⊢
 generalize hr0:(if fmt=1 then (15:Int) else if fmt=2 then 7 else 14)=r0
 have hr1:0≤r0∧r0≤15:=by rw [← hr0];split <;> (try split) <;> omega
 have har:([.d (.int .i64 0),.d (.int .i64 15),.d (.int .i64 7),.d (.int .i64 14)]:List AV)[fmt.toNat]?=some (.d (.int .i64 r0)):=by
  have:fmt=1∨fmt=2∨fmt=3:=by omega
  rcases this with rfl | rfl | rfl <;> subst hr0 <;> rfl
 refine qAb hT Tryz.func172 rfl rfl rfl rfl ?_;intro E hE
 refine qAo ?_
 refine qAu (qAn ?_)
 refine qAd (qCg (i0:=0) rfl rfl rfl) rfl ?_
 refine ww ?_
 refine qAd (qAc (arrIdx_ok hT rfl rfl rfl rfl (by show 0≤fmt∧fmt < 4;omega) har)) rfl ?_
 refine ww ?_
 refine qAa rfl (fun c1=>?_) (fun c1=>?_)
 ·have c1':num.length > 9:=by simp at c1;omega
  rw [if_pos c1']
  have hw:IntKind.i64.wrap (r0-IntKind.i64.wrap (IntKind.i64.wrap ((num.length:Int)-9)+2))=r0-((num.length:Int)-9+2):=by
   rw [qAe (n:=(num.length:Int)-9) (by omega),qAe (n:=(num.length:Int)-9+2) (by omega),qAe (by omega)]
  refine ww ?_
  exact wwr
 ·have c1':¬ num.length > 9:=by simp at c1;omega
  rw [if_neg c1',Int.sub_zero]
  refine ww ?_
  exact wwr
theorem ValidZ_spec (z:Zon) (hz:zLen z):Spec Tryz.prog 100 [zAV z] [] (fun r h'=>r=.d (.int .i64 (validZ z))∧h'=[]):=by
 obtain ⟨z1,z2,z3,z4,z5,z6,z7,z8,z9,z10,z11⟩:=hz
 have hroom:=fun h=>room_spec z h (by omega)
 have hrr : -20000≤roomF z∧roomF z≤15:=by unfold roomF;split <;> (try split) <;> (try split) <;> omega
 have hk:=letters_spec z.kind 2 (by omega)
 have hs:=letters_spec z.state 3 (by omega)
 have hn:=letters_spec z.nat 3 (by omega)
 have hsu:=Name_spec z.sur (by omega)
 have hgi:=Name_spec z.giv (by omega)
 have hpl:=plain_spec z.num (by omega)
 have hbi:=birth_spec z.bir
 have hpa:=dayParse_spec z.exp 2000 (by omega)
 have hop:=extra_spec z.opt (by omega)
 have hse:=extra_spec z.sec (by omega)
 generalize hfin:validZ z=fin
 unfold validZ at hfin
 unfold zAV at hroom ⊢
 generalize roomF z=room at hfin hroom hrr
 obtain ⟨fmt,kind,state,sur,giv,num,nat,bir,sex,exp,opt,sec⟩:=z
 unfold zCells at hroom ⊢
 simp only at hfin hroom hk hs hn hsu hgi hpl hbi hpa hop hse z1 z2 z3 z4 z5 z6 z7 z8 z9 z10 z11 ⊢
 generalize lettersF kind 2=b1 at hk hfin
 generalize lettersF state 3=b2 at hs hfin
 generalize nameL true sur=b3 at hsu hfin
 generalize nameL true giv=b4 at hgi hfin
 generalize plainF num=b5 at hpl hfin
 generalize lettersF nat 3=b6 at hn hfin
 generalize birthF bir=b7 at hbi hfin
 generalize extraF opt=b8 at hop hfin
 generalize extraF sec=b9 at hse hfin
 generalize dayParse exp 2000=dp at hpa hfin
 obtain ⟨dd,de⟩:=dp
 simp only at hpa hfin
 refine qAb hT Tryz.func100 rfl rfl rfl rfl ?_;intro E hE
 refine qAo ?_
 refine qAu (qAn ?_)
 refine qAd (qCg (i0:=0) rfl rfl rfl) rfl ?_
 refine ww ?_
 refine wwgc hk ?_
 refine ww ?_
 refine wwgc hs ?_
 refine ww ?_
 refine wwgc hsu ?_
 refine ww ?_
 refine wwgc hgi ?_
 refine ww ?_
 refine wwgc hpl ?_
 refine ww ?_
 refine qAa rfl (fun c1=>?_) (fun c1=>?_)
 ·simp only [Bool.or_eq_true,Bool.not_eq_true',decide_eq_true_eq,beq_iff_eq,or_assoc] at c1
  rw [if_pos c1] at hfin
  subst hfin
  refine ww ?_
  exact wwr
 simp only [Bool.or_eq_false_iff,Bool.not_eq_false',decide_eq_false_iff_not,beq_eq_false_iff_ne,ne_eq,and_assoc] at c1
 obtain ⟨f1,f2,rfl,rfl,rfl,f3,rfl,f4,rfl⟩:=c1
 rw [if_neg (by simp;exact ⟨by omega,by omega,f3,f4⟩)] at hfin
 generalize hm0:mostN fmt=m0 at hfin
 have har:([.d (.int .i64 0),.d (.int .i64 20),.d (.int .i64 14),.d (.int .i64 9)]:List AV)[fmt.toNat]?=some (.d (.int .i64 m0)):=by
  have:fmt=1∨fmt=2∨fmt=3:=by omega
  rcases this with rfl | rfl | rfl <;> subst hm0 <;> rfl
 refine ww ?_
 refine qAp (qAc (arrIdx_ok hT rfl rfl rfl rfl (by show 0≤fmt∧fmt < 4;omega) har)) rfl rfl ?_
 refine ww ?_
 refine qAa rfl (fun c2=>?_) (fun c2=>?_)
 ·have c2':(num.length:Int) > m0:=by simpa using c2
  rw [if_pos c2'] at hfin
  subst hfin
  refine ww ?_
  exact wwr
 have c2':¬ (num.length:Int) > m0:=by simpa using c2
 rw [if_neg c2'] at hfin
 refine ww ?_
 refine wwc hn ?_
 refine ww ?_
 refine qAa rfl (fun c3=>?_) (fun c3=>?_)
 ·have c3':b6=false:=by simpa using c3
  rw [if_pos c3'] at hfin
  subst hfin
  refine ww ?_
  exact wwr
 have c3':¬ b6=false:=by simpa using c3
 rw [if_neg c3'] at hfin
 refine ww ?_
 refine wwc hbi ?_
 refine ww ?_
 refine qAa rfl (fun c4=>?_) (fun c4=>?_)
 ·have c4':b7=false:=by simpa using c4
  rw [if_pos c4'] at hfin
  subst hfin
  refine ww ?_
  exact wwr
 have c4':¬ b7=false:=by simpa using c4
 rw [if_neg c4'] at hfin
 refine ww ?_
 refine qAa rfl (fun c5=>?_) (fun c5=>?_)
 ·have c5':sex≠[77]∧sex≠[70]∧sex≠[60]:=by simpa [and_assoc] using c5
  rw [if_pos c5'] at hfin
  subst hfin
  refine ww ?_
  exact wwr
 have c5':¬ (sex≠[77]∧sex≠[70]∧sex≠[60]):=by rintro ⟨g1,g2,g3⟩;simp [g1,g2,g3] at c5
 rw [if_neg c5'] at hfin
 refine ww ?_
 refine wwc hpa ?_
 refine ww ?_
 refine qAa rfl (fun c6=>?_) (fun c6=>?_)
 ·have c6':de≠0:=by simpa using c6
  rw [if_pos c6'] at hfin
  subst hfin
  refine ww ?_
  exact wwr
 have c6':¬ de≠0:=by simpa using c6
 rw [if_neg c6'] at hfin
 refine ww ?_
 refine wwc hop ?_
 refine ww ?_
 refine wwgc hse ?_
 refine ww ?_
 refine qAa rfl (fun c7=>?_) (fun c7=>?_)
 ·have c7':b8=false∨b9=false∨(sec≠[]∧fmt≠1):=by simpa [or_assoc] using c7
  rw [if_pos c7'] at hfin
  subst hfin
  refine ww ?_
  exact wwr
 have c7':¬ (b8=false∨b9=false∨(sec≠[]∧fmt≠1)):=by
  intro hh
  have:¬ (true=false):=by simp
  rcases hh with g | g | ⟨g1,g2⟩
  ·simp [g] at c7
  ·simp [g] at c7
  ·simp [g1,g2] at c7
 rw [if_neg c7'] at hfin
 have hroom':=hroom ⟨by omega,by omega⟩
 refine ww ?_
 refine wwc hroom' ?_
 refine ww ?_
 refine qAa rfl (fun c8=>?_) (fun c8=>?_)
 ·have c8':(opt.length:Int) > room∨(sec.length:Int) > 11:=by simpa using c8
  rw [if_pos c8'] at hfin
  subst hfin
  refine ww ?_
  exact wwr
 have c8':¬ ((opt.length:Int) > room∨(sec.length:Int) > 11):=by
  simp only [Bool.or_eq_false_iff,decide_eq_false_iff_not] at c8
  omega
 rw [if_neg c8'] at hfin
 subst hfin
 refine ww ?_
 exact wwr
end Tdoc
namespace Tdoc
open Go Go.Proofs
def encSs (l:List (List UInt8)):List (List Dat):=l.map fun s=>[.str s]
theorem qBc (s:List UInt8):(digitF s).1.length≤1:=by unfold digitF digitS;split <;> simp
theorem digit_one {s:List UInt8} (h:validS s=true):(digitF s).1.length=1:=by unfold digitF digitS;rw [if_pos h];rfl
theorem qBj:∀ (a b:List UInt8),validS (a++b)=(validS a&&validS b)
 | [],b=>by simp [validS]
 | c::a,b=>by rw [List.cons_append,validS,validS,qBj a b,Bool.and_assoc]
theorem validS_fill:∀ (n:Nat),validS (List.replicate n 60)=true
 | 0=>rfl
 | n+1=>by rw [List.replicate_succ,validS,validS_fill n];rfl
theorem qCo {s:List UInt8} (n:Nat) (h:validS s=true):validS (wideS s n)=true:=by unfold wideS;rw [qBj,h,validS_fill];rfl
theorem valid_plain:∀ {s:List UInt8},plainF s=true→validS s=true
 | [],_=>rfl
 | c::s,h=>by
  rw [plainF,List.all_cons,Bool.and_eq_true,decide_eq_true_eq] at h
  rw [validS,valid_plain h.2,Bool.and_true,decide_eq_true_eq]
  exact h.1.2
theorem valid_dig:∀ {s:List UInt8},s.all isDig=true→validS s=true
 | [],_=>rfl
 | c::s,h=>by
  rw [List.all_cons,Bool.and_eq_true] at h
  have:=(qBn _).1 h.1
  rw [validS,valid_dig h.2,Bool.and_true,decide_eq_true_eq]
  unfold valC;rw [if_pos this];omega
theorem valid_pair {a b:UInt8} (h:pairF [a,b] > -2):validS [a,b]=true:=by
 unfold pairF at h
 split at h
 ·rename_i h1;rw [h1];rfl
 ·split at h
  ·rename_i h1 h2
   exact valid_dig (by simp only [List.all_cons,List.all_nil,Bool.and_true,Bool.and_eq_true];exact h2)
  ·omega
theorem valid_birth {s:List UInt8} (h:birthF s=true):s.length=6∧validS s=true:=by
 unfold birthF at h
 simp only [Bool.and_eq_true,decide_eq_true_eq] at h
 obtain ⟨h1,h2,h3,h4⟩:=h
 obtain ⟨a,b,c,d,e,f,rfl⟩:=six h1
 refine ⟨rfl,?_⟩
 have h2':pairF [a,b] > -2:=h2
 have h3':pairF [c,d] > -2:=by have:pairF [c,d] = -1∨1≤pairF [c,d]∧pairF [c,d]≤12:=h3;omega
 have h4':pairF [e,f] > -2:=by have:pairF [e,f] = -1∨1≤pairF [e,f]∧pairF [e,f]≤31:=h4;omega
 rw [show [a,b,c,d,e,f]=[a,b]++([c,d]++[e,f]) from rfl,qBj,qBj,valid_pair h2',valid_pair h3',valid_pair h4']
 rfl
theorem valid_day {s:List UInt8} {y:Int} (h:(dayParse s y).2=0):s.length=6∧validS s=true:=by
 unfold dayParse at h
 split at h
 ·exact absurd h (by simp)
 split at h
 ·exact absurd h (by simp)
 split at h
 ·exact absurd h (by simp)
 rename_i h1 h2 h3
 exact ⟨by omega,valid_dig (by simpa using h3)⟩
theorem letters_len {s:List UInt8} {n:Int} (h:lettersF s n=true):1≤s.length∧(s.length:Int)≤n:=by
 unfold lettersF at h
 rw [Bool.and_eq_true,decide_eq_true_eq] at h
 exact h.1
structure ZOk (z:Zon):Prop where
 fmt:1≤z.fmt∧z.fmt≤3
 kind:z.kind.length≤2
 state:z.state.length≤3
 nat:z.nat.length≤3
 bir:z.bir.length=6∧validS z.bir=true
 sex:z.sex.length=1
 exp:z.exp.length=6∧validS z.exp=true
 num:1≤z.num.length∧(z.num.length:Int)≤mostN z.fmt∧validS z.num=true
 opt:(z.opt.length:Int)≤roomF z∧validS z.opt=true
 sec:z.sec.length≤11∧validS z.sec=true
theorem validZ_ok {z:Zon} (h:validZ z=0):ZOk z:=by
 unfold validZ at h
 split at h
 ·exact absurd h (by omega)
 split at h
 ·exact absurd h (by omega)
 split at h
 ·exact absurd h (by omega)
 split at h
 ·exact absurd h (by omega)
 split at h
 ·exact absurd h (by omega)
 split at h
 ·exact absurd h (by omega)
 split at h
 ·exact absurd h (by omega)
 split at h
 ·exact absurd h (by omega)
 rename_i h1 h2 h3 h4 h5 h6 h7 h8
 simp only [not_or,Bool.not_eq_false] at h1 h3 h4 h7
 obtain ⟨f1,f2,f3,f4,f5,f6,f7,f8,f9⟩:=h1
 have hk:=letters_len f3
 have hs:=letters_len f4
 have hn:=letters_len h3
 have hop:validS z.opt=true:=by have:=h7.1;unfold extraF at this;rw [Bool.and_eq_true] at this;exact this.1
 have hse:validS z.sec=true:=by have:=h7.2.1;unfold extraF at this;rw [Bool.and_eq_true] at this;exact this.1
 have hsx:z.sex.length=1:=by
  by_cases g1:z.sex=[77]
  ·rw [g1];rfl
  by_cases g2:z.sex=[70]
  ·rw [g2];rfl
  by_cases g3:z.sex=[60]
  ·rw [g3];rfl
  exact absurd ⟨g1,g2,g3⟩ h5
 have hnm:1≤z.num.length:=by cases hx:z.num with
  | nil=>exact absurd hx f8
  | cons a l=>simp
 exact ⟨by omega,by omega,by omega,by omega,valid_birth h4,hsx,valid_day (by simpa using h6),⟨hnm,by omega,valid_plain f9⟩,⟨by omega,hop⟩,⟨by omega,hse⟩⟩
theorem checked_spec (s:List UInt8) (hs:s.length≤100000):Spec Tryz.prog 103 [.d (.str s)] [] (fun r h'=>r=.d (.str (checkedS s))∧h'=[]):=by
 have hd:=Digit_spec s (by omega)
 have hl:=qBc s
 unfold checkedS
 generalize digitF s=q at hd hl
 obtain ⟨d,e⟩:=q
 simp only at hd hl ⊢
 refine qAb hT Tryz.func103 rfl rfl rfl rfl ?_;intro E hE
 refine ww ?_
 refine wwc hd ?_
 refine ww ?_
 exact wwr
theorem number_spec (s:List UInt8) (hs:s.length≤10000):Spec Tryz.prog 102 [.d (.str s)] [] (fun r h'=>r=.tup [.d (.str (numberS s).1),.d (.str (numberS s).2)]∧h'=[]):=by
 have hd:=Digit_spec s (by omega)
 have hl:=qBc s
 have hw:=Wide_spec s 9 (by omega) (by omega)
 have hwl:=qAt s 9
 have hc:=checked_spec (wideS s 9) (by omega)
 generalize hfin:numberS s=fin
 unfold numberS at hfin
 generalize digitF s=q at hd hl hfin
 obtain ⟨d,e⟩:=q
 generalize wideS s 9=w at hw hwl hc hfin
 generalize checkedS w=cw at hc hfin
 simp only at hd hl hfin
 refine qAb hT Tryz.func102 rfl rfl rfl rfl ?_;intro E hE
 refine ww ?_
 refine qAa rfl (fun c1=>?_) (fun c1=>?_)
 ·have c1':s.length≤9:=by simp at c1;omega
  rw [if_pos c1'] at hfin
  subst hfin
  refine ww ?_
  refine wwc hw ?_
  refine ww ?_
  refine wwc hc ?_
  refine ww ?_
  exact wwr
 ·have c1':¬ s.length≤9:=by simp at c1;omega
  rw [if_neg c1'] at hfin
  subst hfin
  refine ww ?_
  refine wwc hd ?_
  refine ww ?_
  exact wwr
theorem qDl {s:List UInt8} (h:validS s=true):(checkedS s).length=s.length+1:=by unfold checkedS;rw [List.length_append,digit_one h]
theorem number_len {s:List UInt8} (h:validS s=true) (hl:1≤s.length):(numberS s).1.length=10∧(numberS s).2.length=if s.length≤9 then 0 else s.length-9+2:=by
 unfold numberS
 split
 ·rename_i h1
  refine ⟨?_,rfl⟩
  rw [qDl (qCo 9 h),qAt];omega
 ·rename_i h1
  refine ⟨?_,?_⟩
  ·show (s.take 9++[60]).length=10
   rw [List.length_append,List.length_take];simp;omega
  ·show (s.drop 9++(digitF s).1++[60]).length=s.length-9+2
   rw [List.length_append,List.length_append,List.length_drop,digit_one h];simp
end Tdoc
namespace Tdoc
open Go Go.Proofs
theorem lettersP_spec (s:List UInt8) (most:Int) (hs:s.length≤1000000):Spec Tryz.prog 184 [.d (.str s),.d (.int .i64 most)] [] (fun r h'=>r=.d (.bool (lettersF s most))∧h'=[]):=by
 have ht:=TrimUp_spec s hs
 have hl:lettersF s most=(decide ((s.length:Int)≥1)&&decide ((s.length:Int)≤most)&&(Lib.trimS s upS == [])):=by
  unfold lettersF
  rw [Bool.eq_iff_iff]
  simp only [Bool.and_eq_true,decide_eq_true_eq,beq_iff_eq]
  rw [trimS_nil]
  constructor
  ·rintro ⟨⟨h1,h2⟩,h3⟩;exact ⟨⟨by omega,h2⟩,h3⟩
  ·rintro ⟨⟨h1,h2⟩,h3⟩;exact ⟨⟨by omega,h2⟩,h3⟩
 rw [hl]
 generalize Lib.trimS s upS=ts at ht
 refine qAb hT Tryz.func184 rfl rfl rfl rfl ?_;intro E hE
 refine ww ?_
 refine wwgc ht ?_
 refine ww ?_
 exact wwr
theorem freeP_spec (s:List UInt8) (hs:s.length≤1000000):Spec Tryz.prog 189 [.d (.str s)] [] (fun r h'=>r=.d (.bool (extraF s))∧h'=[]):=by
 have hv:=ValidP_spec s hs
 have h1:=HasPrefix_spec s [60]
 have h2:=HasSuffix_spec s [60] hs
 rw [prefix_one] at h1
 rw [suffix_one] at h2
 have hl:extraF s=(validS s&&!decide (s.head?=some 60)&&!decide (s.getLast?=some 60)):=by
  unfold extraF
  cases s with
  | nil=>rfl
  | cons c l =>
   rw [Bool.eq_iff_iff]
   simp [and_assoc]
 rw [hl]
 generalize validS s=b0 at hv
 generalize decide (s.head?=some 60)=b1 at h1
 generalize decide (s.getLast?=some 60)=b2 at h2
 refine qAb hT Tryz.func189 rfl rfl rfl rfl ?_;intro E hE
 refine ww ?_
 refine wwc hv ?_
 refine ww ?_
 refine wwgc h1 ?_
 refine ww ?_
 refine wwgc h2 ?_
 refine ww ?_
 exact wwr
theorem longestP_spec (f:Int):Spec Tryz.prog 187 [.d (.int .i64 f)] [] (fun r h'=>r=.d (.int .i64 (mostN f))∧h'=[]):=by
 unfold mostN
 refine qAb hT Tryz.func187 rfl rfl rfl rfl ?_;intro E hE
 refine ww ?_
 refine qAa rfl (fun c1=>?_) (fun c1=>?_)
 ·rw [if_pos (by simpa using c1)]
  refine ww ?_
  exact wwr
 rw [if_neg (by simpa using c1)]
 refine ww ?_
 refine qAa rfl (fun c2=>?_) (fun c2=>?_)
 ·rw [if_pos (by simpa using c2)]
  refine ww ?_
  exact wwr
 rw [if_neg (by simpa using c2)]
 refine ww ?_
 exact wwr
def layD (f:Int):List Int :=
 if f=1 then [0,0,2,0,2,3,2,0,30,0,5,9,0,14,1,1,15,3,1,0,6,1,6,1,1,7,1,1,8,6,1,14,1,0,15,15,0,0,0,1,18,11,1,29,1]
 else if f=2 then [0,0,2,0,2,3,0,5,31,1,0,9,1,9,1,1,10,3,1,13,6,1,19,1,1,20,1,1,21,6,1,27,1,1,28,7,0,0,0,0,0,0,1,35,1]
 else if f=3 then [0,0,2,0,2,3,0,5,39,1,0,9,1,9,1,1,10,3,1,13,6,1,19,1,1,20,1,1,21,6,1,27,1,1,28,14,1,42,1,0,0,0,1,43,1]
 else List.replicate 45 0
def layN (f:Int):Int:=if f=1 then 3 else if f=2∨f=3 then 2 else 0
def layW (f:Int):Int:=if f=1 then 30 else if f=2 then 36 else if f=3 then 44 else 0
def intsA (l:List Int):List AV:=l.map fun n=>.d (.int .i64 n)
theorem qCv (f:Int):Spec Tryz.prog 120 [.d (.int .i64 f)] [] (fun r h'=>r=.tup [.agg (intsA (layD f)),.d (.int .i64 (layN f)),.d (.int .i64 (layW f))]∧h'=[]):=by
 by_cases h3:f=3
 ·subst h3
  refine qAb hT Tryz.func120 rfl rfl rfl rfl ?_;intro E hE
  refine ww ?_
  refine qAa rfl (fun c1=>?_) (fun c1=>?_)
  rotate_left
  ·exact absurd c1 (by simp)
  refine ww ?_
  refine qAa rfl (fun c2=>?_) (fun c2=>?_)
  rotate_left
  ·exact absurd c2 (by simp)
  refine ww ?_
  refine qAa rfl (fun c3=>?_) (fun c3=>?_)
  ·exact absurd c3 (by simp)
  refine ww ?_
  refine qAa rfl (fun c4=>?_) (fun c4=>?_)
  rotate_left
  ·exact absurd c4 (by simp)
  refine ww ?_
  first | refine qAd (qAc (qAh hT rfl rfl rfl rfl (by decide))) rfl ?_ | refine qAp (qAc (qAh hT rfl rfl rfl rfl (by decide))) rfl rfl ?_
  refine ww ?_
  first | refine qAd (qAc (qAh hT rfl rfl rfl rfl (by decide))) rfl ?_ | refine qAp (qAc (qAh hT rfl rfl rfl rfl (by decide))) rfl rfl ?_
  refine ww ?_
  first | refine qAd (qAc (qAh hT rfl rfl rfl rfl (by decide))) rfl ?_ | refine qAp (qAc (qAh hT rfl rfl rfl rfl (by decide))) rfl rfl ?_
  refine ww ?_
  exact rx ⟨rfl,rfl⟩
 by_cases h2:f=2
 ·subst h2
  refine qAb hT Tryz.func120 rfl rfl rfl rfl ?_;intro E hE
  refine ww ?_
  refine qAa rfl (fun c1=>?_) (fun c1=>?_)
  ·exact absurd c1 (by simp)
  refine ww ?_
  refine qAa rfl (fun c2=>?_) (fun c2=>?_)
  rotate_left
  ·exact absurd c2 (by simp)
  refine ww ?_
  refine qAa rfl (fun c3=>?_) (fun c3=>?_)
  rotate_left
  ·exact absurd c3 (by simp)
  refine ww ?_
  refine qAa rfl (fun c4=>?_) (fun c4=>?_)
  ·exact absurd c4 (by simp)
  refine ww ?_
  exact rx ⟨rfl,rfl⟩
 by_cases h1:f=1
 ·subst h1
  refine qAb hT Tryz.func120 rfl rfl rfl rfl ?_;intro E hE
  refine ww ?_
  refine qAa rfl (fun c1=>?_) (fun c1=>?_)
  ·exact absurd c1 (by simp)
  refine ww ?_
  refine qAa rfl (fun c2=>?_) (fun c2=>?_)
  ·exact absurd c2 (by simp)
  refine ww ?_
  refine qAa rfl (fun c3=>?_) (fun c3=>?_)
  rotate_left
  ·exact absurd c3 (by simp)
  refine ww ?_
  exact rx ⟨rfl,rfl⟩
 have e1:layD f=List.replicate 45 0:=by unfold layD;rw [if_neg h1,if_neg h2,if_neg h3]
 have e2:layN f=0:=by unfold layN;rw [if_neg h1,if_neg (by omega)]
 have e3:layW f=0:=by unfold layW;rw [if_neg h1,if_neg h2,if_neg h3]
 rw [e1,e2,e3]
 refine qAb hT Tryz.func120 rfl rfl rfl rfl ?_;intro E hE
 refine ww ?_
 refine qAa rfl (fun c1=>?_) (fun c1=>?_)
 ·exact absurd c1 (by simp [h3])
 refine ww ?_
 refine qAa rfl (fun c2=>?_) (fun c2=>?_)
 ·exact absurd c2 (by simp [h2])
 refine ww ?_
 refine qAa rfl (fun c3=>?_) (fun c3=>?_)
 ·exact absurd c3 (by simp [h1])
 refine ww ?_
 exact rx ⟨rfl,rfl⟩
def mostB (i:Nat):Int:=if i=0 then 99 else if i=1 then 12 else 31
theorem mostB_at {i:Nat} (h:i < 3):([AV.d (.int .i64 99),.d (.int .i64 12),.d (.int .i64 31)]:List AV)[((i:Int)).toNat]?=some (.d (.int .i64 (mostB i))):=by
 match i,h with
 | 0,_=>rfl
 | 1,_=>rfl
 | 2,_=>rfl
def pairAt (s:List UInt8) (i:Nat):Int:=pairF [s.getD (2*i) 0,s.getD (2*i+1) 0]
def okB (s:List UInt8) (i:Nat):Bool:=decide (pairAt s i = -1∨(pairAt s i > -2∧pairAt s i≤mostB i∧(i=0∨pairAt s i≠0)))
def okR (s:List UInt8) (i:Nat):Bool:=match i with
 | 0=>okB s 0&&(okB s 1&&okB s 2)
 | 1=>okB s 1&&okB s 2
 | 2=>okB s 2
 | _=>true
theorem okR_step {s:List UInt8} {i:Nat} (h:i < 3):okR s i=(okB s i&&okR s (i+1)):=by
 match i,h with
 | 0,_=>rfl
 | 1,_=>rfl
 | 2,_=>simp [okR]
theorem pairF_two (a b:UInt8):pairF [a,b]=if a=60∧b=60 then -1 else if isDig a=true∧isDig b=true then 10*(bI a-48)+(bI b-48) else -2:=by
 unfold pairF pairI
 simp
theorem pairF_range (a b:UInt8):pairF [a,b] = -1∨pairF [a,b] = -2∨(0≤pairF [a,b]∧pairF [a,b]≤99):=by
 rw [pairF_two]
 split
 ·exact .inl rfl
 ·split
  ·rename_i h
   have h1:=(qBn a).1 h.1
   have h2:=(qBn b).1 h.2
   right;right;omega
  ·exact .inr (.inl rfl)
theorem birth_okR {s:List UInt8} (h:s.length=6):birthF s=okR s 0:=by
 obtain ⟨a,b,c,d,e,f,rfl⟩:=six h
 have r0:=pairF_range a b
 have r1:=pairF_range c d
 have r2:=pairF_range e f
 have hb:birthF [a,b,c,d,e,f]=(decide (6=6)&&(decide (pairF [a,b] > -2)&&(decide (pairF [c,d] = -1∨1≤pairF [c,d]∧pairF [c,d]≤12)&&decide (pairF [e,f] = -1∨1≤pairF [e,f]∧pairF [e,f]≤31)))):=rfl
 have e0:pairAt [a,b,c,d,e,f] 0=pairF [a,b]:=rfl
 have e1:pairAt [a,b,c,d,e,f] 1=pairF [c,d]:=rfl
 have e2:pairAt [a,b,c,d,e,f] 2=pairF [e,f]:=rfl
 have m0:mostB 0=99:=rfl
 have m1:mostB 1=12:=rfl
 have m2:mostB 2=31:=rfl
 have hR:okR [a,b,c,d,e,f] 0=(okB [a,b,c,d,e,f] 0&&(okB [a,b,c,d,e,f] 1&&okB [a,b,c,d,e,f] 2)):=rfl
 rw [hb,hR]
 unfold okB
 rw [e0,e1,e2,m0,m1,m2]
 generalize pairF [a,b]=x at *
 generalize pairF [c,d]=y at *
 generalize pairF [e,f]=z at *
 rw [Bool.eq_iff_iff]
 simp only [Bool.and_eq_true,decide_eq_true_eq]
 simp only [true_and,true_or,and_true]
 omega
theorem two_cut {s:List UInt8} {i:Nat} (hs:s.length=6) (h:i < 3):cutL s (2*(i:Int)) (2*(i:Int)+2)=[s.getD (2*i) 0,s.getD (2*i+1) 0]:=by
 obtain ⟨a,b,c,d,e,f,rfl⟩:=six hs
 match i,h with
 | 0,_=>rfl
 | 1,_=>rfl
 | 2,_=>rfl
theorem bornP_spec (s:List UInt8) (hs:s.length≤1000000):Spec Tryz.prog 188 [.d (.str s)] [] (fun r h'=>r=.d (.bool (birthF s))∧h'=[]):=by
 by_cases h6:s.length=6
 case neg =>
  have hb:birthF s=false:=by unfold birthF;rw [decide_eq_false h6,Bool.false_and]
  rw [hb]
  refine qAb hT Tryz.func188 rfl rfl rfl rfl ?_;intro E hE
  refine ww ?_
  refine AW_scope ?_
  refine ww ?_
  refine qAa rfl (fun c1=>?_) (fun c1=>?_)
  ·refine ww ?_
   exact wwr
  ·exact absurd c1 (by simp;omega)
 rw [birth_okR h6]
 generalize hfin:okR s 0=fin
 refine qAb hT Tryz.func188 rfl rfl rfl rfl ?_;intro E hE
 refine ww ?_
 refine AW_scope ?_
 refine ww ?_
 refine qAa rfl (fun c1=>?_) (fun c1=>?_)
 ·exact absurd c1 (by rw [h6];simp)
 refine ww ?_
 refine AW_label ?_
 refine ww ?_
 refine qAq (ι:=Nat) (fun i=>[(0,.d (.str s)),(11,.agg [.d (.int .i64 99),.d (.int .i64 12),.d (.int .i64 31)]),(12,.d (.int .i64 (i:Int)))]) (fun _=>[]) (fun i=>i≤3∧okR s i=fin) (fun i=>3-i) 0 ⟨by omega,hfin⟩ ⟨.refl _,.refl _,.refl _,trivial⟩ (HLe.refl _) ?_
 rintro i ⟨hi,hg⟩
 have hwr:IntKind.i64.wrap ((i:Int)+1)=((i+1:Nat):Int):=by rw [qAe (by omega)];simp
 refine ww ?_
 refine qAa rfl (fun c2=>?_) (fun c2=>?_)
 rotate_left
 ·have c2':i=3:=by simp at c2;omega
  subst c2'
  have:fin=true:=hg.symm
  subst this
  refine ww ?_
  exact wwr
 have c2':i < 3:=by simp at c2;omega
 have hst:=okR_step (s:=s) c2'
 rw [hg] at hst
 have hcut:=two_cut h6 c2'
 have hp2:=pairF_two (s.getD (2*i) 0) (s.getD (2*i+1) 0)
 have hw2:IntKind.i64.wrap (2*(i:Int))=2*(i:Int):=qAe (by omega)
 have hw3:IntKind.i64.wrap (IntKind.i64.wrap (2*(i:Int))+2)=2*(i:Int)+2:=by rw [hw2,qAe (by omega)]
 have hmb:mostB i≤99:=by unfold mostB;split <;> (try split) <;> omega
 have hmi:=mostB_at c2'
 have hokb:okB s i=decide (pairAt s i = -1∨(pairAt s i > -2∧pairAt s i≤mostB i∧(i=0∨pairAt s i≠0))):=rfl
 unfold pairAt at hokb
 generalize mostB i=mb at hmb hmi hokb
 refine ww ?_
 refine qAd (qAc (arrIdx_ok hT rfl rfl rfl rfl ⟨by omega,by omega⟩ hmi)) rfl ?_
 refine ww ?_
 refine qAq (ι:=Nat) (fun k=>[(0,.d (.str s)),(11,.agg [.d (.int .i64 99),.d (.int .i64 12),.d (.int .i64 31)]),(12,.d (.int .i64 (i:Int))),(3,.d (.int .i64 (i:Int))),(4,.d (.int .i64 mb)),
   (5,.d (.int .i64 (if k=0 then 0 else if k=1 then bI (s.getD (2*i) 0)-48 else 10*(bI (s.getD (2*i) 0)-48)+(bI (s.getD (2*i+1) 0)-48)))),(16,.d (.int .i64 (k:Int)))]) (fun _=>[])
  (fun k=>k≤2∧(1≤k→isDig (s.getD (2*i) 0)=true)∧(2≤k→isDig (s.getD (2*i+1) 0)=true)) (fun k=>2-k) 0 ⟨by omega,fun h=>by omega,fun h=>by omega⟩ ⟨.refl _,.refl _,.refl _,.refl _,.refl _,.refl _,.refl _,trivial⟩ (HLe.refl _) ?_
 rintro k ⟨hk,hd0,hd1⟩
 have hwk:IntKind.i64.wrap ((k:Int)+1)=((k+1:Nat):Int):=by rw [qAe (by omega)];simp
 refine ww ?_
 refine qAa rfl (fun c3=>?_) (fun c3=>?_)
 ·have c3':k < 2:=by simp at c3;omega
  have hwi:IntKind.i64.wrap (IntKind.i64.wrap (2*(i:Int))+(k:Int))=((2*i+k:Nat):Int):=by rw [hw2,qAe (by omega)];omega
  have hsa:strAt s (IntKind.i64.wrap (IntKind.i64.wrap (2*(i:Int))+(k:Int)))=bI (s.getD (2*i+k) 0):=by
   rw [hwi,qCp (by omega),List.getD_eq_getElem?_getD,List.getElem?_eq_getElem (by omega)];rfl
  have hbr:=bI_range (s.getD (2*i+k) 0)
  have hdg:=qBn (s.getD (2*i+k) 0)
  refine ww ?_
  rw [hsa]
  refine qAa rfl (fun c4=>?_) (fun c4=>?_)
  ·have c4':isDig (s.getD (2*i+k) 0)=true:=hdg.2 (by simp only [Bool.and_eq_true,decide_eq_true_eq] at c4;omega)
   have hdi:=hdg.1 c4'
   have hq:k=0∨k=1:=by omega
   rcases hq with rfl | rfl
   ·have hn:IntKind.i64.wrap (IntKind.i64.wrap (10*0)+IntKind.i64.wrap (IntKind.u8.wrap (bI (s.getD (2*i+0) 0)-48)))=bI (s.getD (2*i) 0)-48:=by
     rw [wrapu8 (by omega),qAe (n:=10*0) (by omega),qAe (n:=bI (s.getD (2*i+0) 0)-48) (by omega),qAe (by omega)];simp
    refine ww ?_
    exact ⟨1,⟨by omega,fun _=>c4',fun h=>by omega⟩,by omega,⟨.refl _,.refl _,.refl _,.refl _,.refl _,.int hn,.int hwk,trivial⟩,HLe.refl _⟩
   ·have hd0':=(qBn _).1 (hd0 (by omega))
    have hn:IntKind.i64.wrap (IntKind.i64.wrap (10*(bI (s.getD (2*i) 0)-48))+IntKind.i64.wrap (IntKind.u8.wrap (bI (s.getD (2*i+1) 0)-48)))=10*(bI (s.getD (2*i) 0)-48)+(bI (s.getD (2*i+1) 0)-48):=by
     rw [wrapu8 (by omega),qAe (n:=10*(bI (s.getD (2*i) 0)-48)) (by omega),qAe (n:=bI (s.getD (2*i+1) 0)-48) (by omega),qAe (by omega)]
    refine ww ?_
    exact ⟨2,⟨by omega,fun _=>hd0 (by omega),fun _=>c4'⟩,by omega,⟨.refl _,.refl _,.refl _,.refl _,.refl _,.int hn,.int hwk,trivial⟩,HLe.refl _⟩
  ·have c4':isDig (s.getD (2*i+k) 0)=false:=by
    cases hx:isDig (s.getD (2*i+k) 0) with
    | false=>rfl
    | true=>have:=hdg.1 hx;simp only [Bool.and_eq_false_iff,decide_eq_false_iff_not] at c4;omega
   have hnd:¬ (isDig (s.getD (2*i) 0)=true∧isDig (s.getD (2*i+1) 0)=true):=fun h=>by
    have hq:k=0∨k=1:=by omega
    rcases hq with rfl | rfl
    ·rw [Nat.add_zero] at c4';rw [c4'] at h;exact absurd h.1 (by simp)
    ·rw [c4'] at h;exact absurd h.2 (by simp)
   rw [if_neg hnd] at hp2
   refine ww ?_
   rw [hw3,hw2,hcut]
   refine qAa rfl (fun c5=>?_) (fun c5=>?_)
   ·have c5':s.getD (2*i) 0=60∧s.getD (2*i+1) 0=60:=by
     have h:([s.getD (2*i) 0,s.getD (2*i+1) 0]:List UInt8)=[60,60]:=eq_of_beq c5
     simpa using h
    rw [if_pos c5'] at hp2
    have hok:okB s i=true:=by rw [hokb,hp2];simp
    rw [hok,Bool.true_and] at hst
    refine ww ?_
    exact ⟨i+1,⟨c2',hst.symm⟩,by omega,⟨.refl _,.refl _,.int hwr,trivial⟩,HLe.refl _⟩
   ·have c5':¬ (s.getD (2*i) 0=60∧s.getD (2*i+1) 0=60):=fun h=>by
     rw [h.1,h.2] at c5;exact absurd c5 (by decide)
    rw [if_neg c5'] at hp2
    have hok:okB s i=false:=by rw [hokb,hp2];simp
    rw [hok,Bool.false_and] at hst
    subst hst
    refine ww ?_
    exact wwr
 ·have c3':k=2:=by simp at c3;omega
  subst c3'
  have h0:=hd0 (by omega)
  have h1:=hd1 (by omega)
  have h0':=(qBn _).1 h0
  have h1':=(qBn _).1 h1
  have hne:¬ (s.getD (2*i) 0=60∧s.getD (2*i+1) 0=60):=fun h=>by
   rw [h.1] at h0;exact absurd h0 (by decide)
  rw [if_neg hne,if_pos ⟨h0,h1⟩] at hp2
  rw [if_neg (by omega),if_neg (by omega)]
  generalize hpe:10*(bI (s.getD (2*i) 0)-48)+(bI (s.getD (2*i+1) 0)-48)=p at hp2
  have hpr:0≤p∧p≤99:=by omega
  rw [hp2] at hokb
  refine ww ?_
  refine qAa rfl (fun c4=>?_) (fun c4=>?_)
  ·have hok:okB s i=false:=by
    rw [hokb]
    apply decide_eq_false
    simp at c4
    omega
   rw [hok,Bool.false_and] at hst
   subst hst
   refine ww ?_
   exact wwr
  ·have hok:okB s i=true:=by
    rw [hokb]
    apply decide_eq_true
    simp at c4
    omega
   rw [hok,Bool.true_and] at hst
   refine ww ?_
   exact ⟨i+1,⟨c2',hst.symm⟩,by omega,⟨.refl _,.refl _,.int hwr,trivial⟩,HLe.refl _⟩
end Tdoc
namespace Tdoc
open Go Go.Proofs
theorem plain_eq:∀ (s:List UInt8),plainF s=(validS s&&!s.any (· == 60))
 | []=>rfl
 | c::l=>by
  have ih:=plain_eq l
  unfold plainF at ih ⊢
  rw [List.all_cons,ih,validS,List.any_cons]
  by_cases h1:c=60
  ·subst h1;simp
  ·have:(c == 60)=false:=by simpa using h1
   rw [this]
   by_cases h2:0≤valC (bI c) <;> simp [h1,h2]
theorem ZValid_walk (z:Zon) (hz:zLen z) (L:List AV) (hL:L.length=45) (hLl:lowL 0 L=true) (ln lw w11 w13:Int) (h35:L[35]?=some (.d (.int .i64 w11))) (h41:L[41]?=some (.d (.int .i64 w13)))
  (hly:Spec Tryz.prog 120 [.d (.int .i64 z.fmt)] [] (fun r h'=>r=.tup [.agg L,.d (.int .i64 ln),.d (.int .i64 lw)]∧h'=[])) (v:Int)
  (hv:v=if ln=0∨lettersF z.kind 2=false∨lettersF z.state 3=false∨nameL true z.sur=false∨z.sur=[]∨nameL true z.giv=false∨z.num=[]∨validS z.num=false∨z.num.any (· == 60)=true then 14
   else if (z.num.length:Int) > mostN z.fmt then 2 else if lettersF z.nat 3=false then 14 else if birthF z.bir=false then 8 else if z.sex≠[77]∧z.sex≠[70]∧z.sex≠[60] then 14 else if (dayParse z.exp 2000).2≠0 then 8
   else if extraF z.opt=false∨extraF z.sec=false∨(z.fmt≠1∧z.sec≠[]) then 14 else if (z.opt.length:Int)+(if (z.num.length:Int) > 9 then (z.num.length:Int)-9+2 else 0) > w11∨(z.sec.length:Int) > w13 then 2 else 0) :
  Spec Tryz.prog 119 [zAV z] [] (fun r h'=>r=.d (.int .i64 v)∧h'=[]):=by
 obtain ⟨f,ki,st,su,gi,nu,na,bi,se,ex,op,sc⟩:=z
 obtain ⟨z1,z2,z3,z4,z5,z6,z7,z8,z9,z10,z11⟩:=hz
 simp only at z1 z2 z3 z4 z5 z6 z7 z8 z9 z10 z11 hly hv
 have g1:=lettersP_spec ki 2 (by omega)
 have g2:=lettersP_spec st 3 (by omega)
 have g3:=NameP_spec su (by omega)
 have g4:=NameP_spec gi (by omega)
 have g5:=ValidP_spec nu (by omega)
 have g6:=Contains60_spec nu
 rw [index_in] at g6
 have g7:=longestP_spec f
 have g8:=lettersP_spec na 3 (by omega)
 have g9:=bornP_spec bi (by omega)
 have g10:=dayParseP_spec ex 2000 (by omega)
 have g11:=freeP_spec op (by omega)
 have g12:=freeP_spec sc (by omega)
 generalize lettersF ki 2=b1 at g1 hv
 generalize lettersF st 3=b2 at g2 hv
 generalize nameL true su=b3 at g3 hv
 generalize nameL true gi=b4 at g4 hv
 generalize validS nu=b5 at g5 hv
 generalize nu.any (· == 60)=b6 at g6 hv
 generalize mostN f=mo at g7 hv
 generalize lettersF na 3=b8 at g8 hv
 generalize birthF bi=b9 at g9 hv
 generalize dayParse ex 2000=dp at g10 hv
 generalize extraF op=b11 at g11 hv
 generalize extraF sc=b12 at g12 hv
 unfold zAV zCells
 simp only
 refine qAb hT Tryz.func119 rfl rfl rfl rfl ?_;intro E hE
 refine ww ?_
 refine qAd (callS0 rfl rfl hly rfl rfl (by simp [low,lowL,hLl])) rfl ?_
 refine ww ?_
 refine qAd (qAc (extractA_ok rfl rfl)) rfl ?_
 refine ww ?_
 refine AWk_op0 (storeAgg_ok hT rfl rfl rfl rfl rfl hL (by exact Nat.le_refl 45) (setRun_full (by rw [hL];rfl))) rfl ?_
 refine ww ?_
 refine wwc g10 ?_
 refine ww ?_
 have r14:∀ {a b:Int} {p:Prop} [Decidable p],p→(if p then a else b)=a:=fun h=>if_pos h
 refine qAa rfl (fun c1=>?_) (fun c1=>?_)
 ·have e:ln=0:=by simpa using c1
  have hv':v=14:=by rw [hv,if_pos (.inl e)]
  rw [hv']
  refine ww ?_
  refine qAa rfl (fun d=>?_) (fun d=>?_)
  ·refine ww ?_
   exact wwr
  ·exact absurd (c1.symm.trans d) (by simp)
 have e1:ln≠0:=by simpa using c1
 refine ww ?_
 refine wwc g1 ?_
 refine ww ?_
 refine qAa rfl (fun c2=>?_) (fun c2=>?_)
 ·have e:b1=false:=by simpa using c2
  have hv':v=14:=by rw [hv,if_pos (by simp [e])]
  rw [hv']
  refine ww ?_
  refine qAa rfl (fun d=>?_) (fun d=>?_)
  ·refine ww ?_
   exact wwr
  ·exact absurd (c2.symm.trans d) (by simp)
 have e2:b1=true:=by simpa using c2
 refine ww ?_
 refine wwc g2 ?_
 refine ww ?_
 refine qAa rfl (fun c3=>?_) (fun c3=>?_)
 ·have e:b2=false:=by simpa using c3
  have hv':v=14:=by rw [hv,if_pos (by simp [e])]
  rw [hv']
  refine ww ?_
  refine qAa rfl (fun d=>?_) (fun d=>?_)
  ·refine ww ?_
   exact wwr
  ·exact absurd (c3.symm.trans d) (by simp)
 have e3:b2=true:=by simpa using c3
 refine ww ?_
 refine wwc g3 ?_
 refine ww ?_
 refine qAa rfl (fun c4=>?_) (fun c4=>?_)
 ·have e:b3=false∨su=[]:=by simpa using c4
  have hv':v=14:=by rw [hv,if_pos (by rcases e with e | e <;> simp [e])]
  rw [hv']
  refine ww ?_
  refine qAa rfl (fun d=>?_) (fun d=>?_)
  ·refine ww ?_
   exact wwr
  ·exact absurd (c4.symm.trans d) (by simp)
 have e4:b3=true∧su≠[]:=by simpa using c4
 refine ww ?_
 refine wwc g4 ?_
 refine ww ?_
 refine qAa rfl (fun c5=>?_) (fun c5=>?_)
 ·have e:b4=false:=by simpa using c5
  have hv':v=14:=by rw [hv,if_pos (by simp [e])]
  rw [hv']
  refine ww ?_
  exact wwr
 have e5:b4=true:=by simpa using c5
 refine ww ?_
 refine qAa rfl (fun c6=>?_) (fun c6=>?_)
 ·have e:nu=[]:=by simpa using c6
  have hv':v=14:=by rw [hv,if_pos (by simp [e])]
  rw [hv']
  refine ww ?_
  refine qAa rfl (fun d=>?_) (fun d=>?_)
  ·refine ww ?_
   exact wwr
  ·exact absurd (c6.symm.trans d) (by simp)
 have e6:nu≠[]:=by simpa using c6
 refine ww ?_
 refine wwc g5 ?_
 refine ww ?_
 refine qAa rfl (fun c7=>?_) (fun c7=>?_)
 ·have e:b5=false:=by simpa using c7
  have hv':v=14:=by rw [hv,if_pos (by simp [e])]
  rw [hv']
  refine ww ?_
  refine qAa rfl (fun d=>?_) (fun d=>?_)
  ·refine ww ?_
   exact wwr
  ·exact absurd (c7.symm.trans d) (by simp)
 have e7:b5=true:=by simpa using c7
 refine ww ?_
 refine wwc g6 ?_
 refine ww ?_
 refine qAa rfl (fun c8=>?_) (fun c8=>?_)
 ·have hv':v=14:=by rw [hv,if_pos (by simp [c8])]
  rw [hv']
  refine ww ?_
  exact wwr
 rw [if_neg (by simp [e1,e2,e3,e4,e5,e6,e7,c8])] at hv
 refine ww ?_
 refine wwc g7 ?_
 refine ww ?_
 refine qAa rfl (fun c9=>?_) (fun c9=>?_)
 ·have e:(nu.length:Int) > mo:=by simpa using c9
  have hv':v=2:=by rw [hv,if_pos e]
  rw [hv']
  refine ww ?_
  exact wwr
 rw [if_neg (by simpa using c9)] at hv
 refine ww ?_
 refine wwc g8 ?_
 refine ww ?_
 refine qAa rfl (fun c10=>?_) (fun c10=>?_)
 ·have e:b8=false:=by simpa using c10
  have hv':v=14:=by rw [hv,if_pos e]
  rw [hv']
  refine ww ?_
  exact wwr
 rw [if_neg (by simpa using c10)] at hv
 refine ww ?_
 refine wwc g9 ?_
 refine ww ?_
 refine qAa rfl (fun c11=>?_) (fun c11=>?_)
 ·have e:b9=false:=by simpa using c11
  have hv':v=8:=by rw [hv,if_pos e]
  rw [hv']
  refine ww ?_
  exact wwr
 rw [if_neg (by simpa using c11)] at hv
 refine ww ?_
 refine qAa rfl (fun c12=>?_) (fun c12=>?_)
 ·have e:se≠[77]∧se≠[70]∧se≠[60]:=by simpa [and_assoc] using c12
  have hv':v=14:=by rw [hv,if_pos e]
  rw [hv']
  refine ww ?_
  exact wwr
 rw [if_neg (by
  intro h
  have:(!(se == [77])&&!(se == [70])&&!(se == [60]))=true:=by simp [h]
  exact absurd (this.symm.trans c12) (by simp))] at hv
 refine ww ?_
 refine qAa rfl (fun c13=>?_) (fun c13=>?_)
 ·have e:dp.2≠0:=by simpa using c13
  have hv':v=8:=by rw [hv,if_pos e]
  rw [hv']
  refine ww ?_
  exact wwr
 rw [if_neg (by simpa using c13)] at hv
 refine ww ?_
 refine wwc g11 ?_
 refine ww ?_
 refine qAa rfl (fun c14=>?_) (fun c14=>?_)
 ·have e:b11=false:=by simpa using c14
  have hv':v=14:=by rw [hv,if_pos (.inl e)]
  rw [hv']
  refine ww ?_
  refine qAa rfl (fun d=>?_) (fun d=>?_)
  ·refine ww ?_
   exact wwr
  ·exact absurd (c14.symm.trans d) (by simp)
 have e14:b11=true:=by simpa using c14
 refine ww ?_
 refine wwc g12 ?_
 refine ww ?_
 refine qAa rfl (fun c15=>?_) (fun c15=>?_)
 ·have e:b12=false:=by simpa using c15
  have hv':v=14:=by rw [hv,if_pos (.inr (.inl e))]
  rw [hv']
  refine ww ?_
  refine qAa rfl (fun d=>?_) (fun d=>?_)
  ·refine ww ?_
   exact wwr
  ·exact absurd (c15.symm.trans d) (by simp)
 have e15:b12=true:=by simpa using c15
 refine ww ?_
 refine qAa rfl (fun c16=>?_) (fun c16=>?_)
 ·have e:f≠1∧sc≠[]:=by simpa using c16
  have hv':v=14:=by rw [hv,if_pos (.inr (.inr e))]
  rw [hv']
  refine ww ?_
  exact wwr
 have e16:¬ (f≠1∧sc≠[]):=by
  intro h
  simp [h] at c16
 rw [if_neg (by simp [e14,e15,e16])] at hv
 refine ww ?_
 refine qAa rfl (fun c17=>?_) (fun c17=>?_)
 ·have e17:(nu.length:Int) > 9:=by simpa using c17
  rw [if_pos e17] at hv
  have hw:IntKind.i64.wrap ((op.length:Int)+IntKind.i64.wrap (IntKind.i64.wrap ((nu.length:Int)-9)+2))=(op.length:Int)+((nu.length:Int)-9+2):=by
   rw [qAe (n:=(nu.length:Int)-9) (by omega),qAe (n:=(nu.length:Int)-9+2) (by omega),qAe (by omega)]
  refine ww ?_
  refine qAd (qAc (qAh hT rfl rfl rfl rfl (by decide))) rfl ?_
  refine ww ?_
  refine qAd (qBd hT rfl rfl rfl rfl rfl h35) rfl ?_
  refine ww ?_
  refine qBq rfl rfl rfl (fun hg=>⟨(sg (C:=True) hg).1,qAc (qAh hT rfl rfl rfl rfl (by decide))⟩) ?_
  refine ww ?_
  refine qBq rfl rfl rfl (fun hg=>⟨(sg (C:=True) hg).1,qBd hT rfl rfl rfl rfl rfl h41⟩) ?_
  refine ww ?_
  refine qAa rfl (fun c18=>?_) (fun c18=>?_)
  ·have e:(op.length:Int)+((nu.length:Int)-9+2) > w11∨(sc.length:Int) > w13:=by
    rw [hw] at c18
    simpa using c18
   have hv':v=2:=by rw [hv,if_pos e]
   rw [hv']
   refine ww ?_
   exact wwr
  ·have e:¬ ((op.length:Int)+((nu.length:Int)-9+2) > w11∨(sc.length:Int) > w13):=by
    rw [hw] at c18
    simpa using c18
   have hv':v=0:=by rw [hv,if_neg e]
   rw [hv']
   refine ww ?_
   exact wwr
 ·have e17:¬ (nu.length:Int) > 9:=by simpa using c17
  rw [if_neg e17] at hv
  refine ww ?_
  refine qAd (qAc (qAh hT rfl rfl rfl rfl (by decide))) rfl ?_
  refine ww ?_
  refine qAd (qBd hT rfl rfl rfl rfl rfl h35) rfl ?_
  refine ww ?_
  refine qBq rfl rfl rfl (fun hg=>⟨(sg (C:=True) hg).1,qAc (qAh hT rfl rfl rfl rfl (by decide))⟩) ?_
  refine ww ?_
  refine qBq rfl rfl rfl (fun hg=>⟨(sg (C:=True) hg).1,qBd hT rfl rfl rfl rfl rfl h41⟩) ?_
  refine ww ?_
  refine qAa rfl (fun c18=>?_) (fun c18=>?_)
  ·have e:(op.length:Int)+0 > w11∨(sc.length:Int) > w13:=by
    rw [Int.add_zero]
    simpa using c18
   have hv':v=2:=by rw [hv,if_pos e]
   rw [hv']
   refine ww ?_
   exact wwr
  ·have e:¬ ((op.length:Int)+0 > w11∨(sc.length:Int) > w13):=by
    rw [Int.add_zero]
    simpa using c18
   have hv':v=0:=by rw [hv,if_neg e]
   rw [hv']
   refine ww ?_
   exact wwr
theorem wid_sum {f o:Int} {nn:Nat}:o+(if (nn:Int) > 9 then (nn:Int)-9+2 else 0) > (if f=1 then 15 else if f=2 then 7 else 14)↔o > (if f=1 then 15 else if f=2 then 7 else 14)-(if nn > 9 then (nn:Int)-9+2 else 0):=by
 split <;> split <;> split <;> (try split) <;> omega
theorem ZValid_spec (z:Zon) (hz:zLen z):Spec Tryz.prog 119 [zAV z] [] (fun r h'=>r=.d (.int .i64 (validZ z))∧h'=[]):=by
 have hlay:=qCv z.fmt
 have hp:plainF z.num=false↔(validS z.num=false∨z.num.any (· == 60)=true):=by
  rw [plain_eq]
  cases validS z.num <;> cases z.num.any (· == 60) <;> simp
 have key:∀ w11 w13:Int,(layN z.fmt=0↔(z.fmt < 1∨z.fmt > 3))→(¬ (z.fmt < 1∨z.fmt > 3)→w11=(if z.fmt=1 then 15 else if z.fmt=2 then 7 else 14)∧(z.fmt=1→w13=11)∧(z.fmt≠1→w13=0))→validZ z=_:=fun w11 w13 hn hw=>by
  exact (show validZ z=if layN z.fmt=0∨lettersF z.kind 2=false∨lettersF z.state 3=false∨nameL true z.sur=false∨z.sur=[]∨nameL true z.giv=false∨z.num=[]∨validS z.num=false∨z.num.any (· == 60)=true then 14
   else if (z.num.length:Int) > mostN z.fmt then 2 else if lettersF z.nat 3=false then 14 else if birthF z.bir=false then 8 else if z.sex≠[77]∧z.sex≠[70]∧z.sex≠[60] then 14 else if (dayParse z.exp 2000).2≠0 then 8
   else if extraF z.opt=false∨extraF z.sec=false∨(z.fmt≠1∧z.sec≠[]) then 14 else if (z.opt.length:Int)+(if (z.num.length:Int) > 9 then (z.num.length:Int)-9+2 else 0) > w11∨(z.sec.length:Int) > w13 then 2 else 0 by
   unfold validZ
   by_cases q0:z.fmt < 1∨z.fmt > 3
   ·rw [if_pos (by rcases q0 with q | q;exact .inl q;exact .inr (.inl q)),if_pos (.inl (hn.2 q0))]
   obtain ⟨h1,h2,h3⟩:=hw q0
   have q0':¬ layN z.fmt=0:=fun h=>q0 (hn.1 h)
   have hA:(z.fmt < 1∨z.fmt > 3∨lettersF z.kind 2=false∨lettersF z.state 3=false∨nameL true z.sur=false∨z.sur=[]∨nameL true z.giv=false∨z.num=[]∨plainF z.num=false) ↔
     (layN z.fmt=0∨lettersF z.kind 2=false∨lettersF z.state 3=false∨nameL true z.sur=false∨z.sur=[]∨nameL true z.giv=false∨z.num=[]∨validS z.num=false∨z.num.any (· == 60)=true):=by
    rw [hp]
    constructor
    ·rintro (h | h | h)
     ·exact absurd (.inl h) q0
     ·exact absurd (.inr h) q0
     ·exact .inr h
    ·rintro (h | h)
     ·exact absurd h q0'
     ·exact .inr (.inr h)
   have hB:(extraF z.opt=false∨extraF z.sec=false∨(z.sec≠[]∧z.fmt≠1))↔(extraF z.opt=false∨extraF z.sec=false∨(z.fmt≠1∧z.sec≠[])):=by rw [and_comm (a:=z.sec≠[])]
   simp only [hA,hB]
   by_cases q1:extraF z.opt=false∨extraF z.sec=false∨(z.fmt≠1∧z.sec≠[])
   ·simp only [if_pos q1]
   have hC:((z.opt.length:Int) > roomF z∨(z.sec.length:Int) > 11)↔((z.opt.length:Int)+(if (z.num.length:Int) > 9 then (z.num.length:Int)-9+2 else 0) > w11∨(z.sec.length:Int) > w13):=by
    rw [h1,wid_sum]
    unfold roomF
    by_cases q2:z.fmt=1
    ·rw [h2 q2]
    ·have:z.sec=[]:=Classical.byContradiction fun h=>q1 (.inr (.inr ⟨q2,h⟩))
     rw [h3 q2,this]
     simp
   simp only [hC])
 by_cases f1:z.fmt=1
 ·have hk:=key 15 11 (by rw [f1];decide) (fun _=>⟨by rw [f1];rfl,fun _=>rfl,fun h=>absurd f1 h⟩)
  exact ZValid_walk z hz _ (by rw [f1];rfl) (by rw [f1];rfl) _ _ 15 11 (by rw [f1];rfl) (by rw [f1];rfl) hlay _ hk
 by_cases f2:z.fmt=2
 ·have hk:=key 7 0 (by rw [f2];decide) (fun _=>⟨by rw [f2];rfl,fun h=>absurd h f1,fun _=>rfl⟩)
  exact ZValid_walk z hz _ (by rw [f2];rfl) (by rw [f2];rfl) _ _ 7 0 (by rw [f2];rfl) (by rw [f2];rfl) hlay _ hk
 by_cases f3:z.fmt=3
 ·have hk:=key 14 0 (by rw [f3];decide) (fun _=>⟨by rw [f3];rfl,fun h=>absurd h f1,fun _=>rfl⟩)
  exact ZValid_walk z hz _ (by rw [f3];rfl) (by rw [f3];rfl) _ _ 14 0 (by rw [f3];rfl) (by rw [f3];rfl) hlay _ hk
 have hl:layD z.fmt=List.replicate 45 0:=by unfold layD;rw [if_neg f1,if_neg f2,if_neg f3]
 have hk:=key 0 0 (by unfold layN;rw [if_neg f1,if_neg (by omega)];simp;omega) (fun h=>absurd (by omega:z.fmt < 1∨z.fmt > 3) h)
 exact ZValid_walk z hz _ (by rw [hl];rfl) (by rw [hl];rfl) _ _ 0 0 (by rw [hl];rfl) (by rw [hl];rfl) hlay _ hk
end Tdoc
namespace Tdoc
open Go Go.Proofs
theorem wgtC_off (i:Nat):([AV.d (.int .i64 7),.d (.int .i64 3),.d (.int .i64 1)]:List AV)[0+(Int.tmod (i:Int) 3).toNat*1]?=some (.d (.int .i64 (wgtC i))):=by
 rw [Nat.zero_add,Nat.mul_one];exact wgtC_at i
theorem DigitP_spec (s:List UInt8) (hs:s.length≤1000000):Spec Tryz.prog 197 [.d (.str s)] [] (fun r h'=>r=.tup [.d (.str (digitF s).1),.d (.int .i64 (digitF s).2)]∧h'=[]):=by
 have hv:=ValidP_spec s hs
 unfold digitF
 by_cases hvs:validS s=true
 case neg =>
  rw [if_neg hvs]
  have hvf:validS s=false:=by simpa using hvs
  rw [hvf] at hv
  refine qAb hT Tryz.func197 rfl rfl rfl rfl ?_;intro E hE
  refine ww ?_
  refine wwc hv ?_
  refine ww ?_
  refine qAa rfl (fun c1=>?_) (fun c1=>?_)
  ·refine ww ?_
   exact wwr
  ·exact absurd c1 (by simp)
 rw [if_pos hvs]
 rw [hvs] at hv
 refine qAb hT Tryz.func197 rfl rfl rfl rfl ?_;intro E hE
 refine ww ?_
 refine wwc hv ?_
 refine ww ?_
 refine qAa rfl (fun c1=>?_) (fun c1=>?_)
 ·exact absurd c1 (by simp)
 refine ww ?_
 refine qAq (ι:=Nat) (fun i=>[(0,.d (.str s)),(4,.ptr 0 0),(5,.d (.int .i64 (digSum 0 (s.take i)))),(12,.d (.int .i64 (s.length:Int))),(13,.d (.int .i64 (i:Int)))]) (fun _=>[.row [.d (.int .i64 7),.d (.int .i64 3),.d (.int .i64 1)]]) (fun i=>i≤s.length) (fun i=>s.length-i) 0 (by omega) ⟨.refl _,.refl _,.refl _,.refl _,.refl _,trivial⟩ (HLe.refl _) ?_
 intro i hi
 have hwr:IntKind.i64.wrap ((i:Int)+1)=((i+1:Nat):Int):=by rw [qAe (by omega)];simp
 have hdr:=digSum_range 0 (s.take i) (validS_take s i hvs)
 rw [List.length_take] at hdr
 refine ww ?_
 refine qAa rfl (fun h2=>?_) (fun h2=>?_)
 ·have h2':i < s.length:=by simpa using h2
  have hsa:=qCp h2'
  have htk:s.take (i+1)=s.take i++[s[i]]:=List.take_succ_eq_append_getElem h2'
  have hsn:=digSum_snoc 0 (s.take i) s[i]
  rw [← htk,List.length_take,Nat.min_eq_left (by omega),Nat.zero_add] at hsn
  have hr:=bI_range s[i]
  have hval:=validS_at hvs (List.getElem_mem h2')
  generalize s[i]=c at hsa hsn hr hval
  have hval2:=valC_range (bI c)
  have hva:=ValueP_spec (strAt s (i:Int)) (by rw [hsa];exact hr)
  have hwg:=wgtC_range i
  have hix:=wgtC_off i
  have htm:0≤Int.tmod (i:Int) 3∧Int.tmod (i:Int) 3 < ((3:Nat):Int):=by rw [show Int.tmod (i:Int) 3=((i % 3:Nat):Int) from Int.ofNat_tmod i 3];omega
  have hprod:0≤wgtC i*valC (bI c)∧wgtC i*valC (bI c)≤7*35:=⟨Int.mul_nonneg (by omega) hval,Int.mul_le_mul hwg.2 hval2.2 (by omega) (by omega)⟩
  have hww:IntKind.i64.wrap (digSum 0 (s.take i)+IntKind.i64.wrap (wgtC i*valC (strAt s (i:Int))))=digSum 0 (s.take (i+1)):=by
   rw [hsa,qAe (n:=wgtC i*valC (bI c)) (by omega),qAe (by omega),hsn]
  refine ww ?_
  refine qAp (qAc (qAh hT rfl rfl rfl rfl htm)) rfl rfl ?_
  refine qAp (qBd hT rfl rfl rfl rfl rfl hix) rfl rfl ?_
  refine ww ?_
  refine wwc hva ?_
  refine ww ?_
  exact ⟨i+1,by omega,by omega,⟨.refl _,.refl _,.int hww,.refl _,.int hwr,trivial⟩,HLe.refl _⟩
 ·have h2':i=s.length:=by simp at h2;omega
  subst h2'
  rw [List.take_length] at hdr ⊢
  have hm:Int.tmod (digSum 0 s) 10=digSum 0 s % 10:=Int.tmod_eq_emod_of_nonneg hdr.1
  have hm1:=Int.emod_nonneg (digSum 0 s) (b:=10) (by omega)
  have hm2:=Int.emod_lt_of_pos (digSum 0 s) (b:=10) (by omega)
  have hww:IntKind.i32.wrap (IntKind.i64.wrap (48+Int.tmod (digSum 0 s) 10))=48+digSum 0 s % 10:=by
   rw [hm,qAe (by omega)]
   unfold IntKind.wrap;simp [IntKind.bits,IntKind.signed];omega
  refine ww ?_
  rw [hww]
  refine qAd (qAc (runeStr_ok hT rfl rfl rfl rfl ⟨by omega,by omega⟩)) rfl ?_
  refine ww ?_
  refine rq ⟨rfl,rfl⟩ rfl (AV.le.tup ⟨.str rfl,.refl _,trivial⟩)
theorem qBw (s:List UInt8) (hs:s.length≤1000000):Spec Tryz.prog 123 [.d (.str s)] [] (fun r h'=>r=.d (.str (digitF s).1)∧h'=[]):=by
 have hd:=DigitP_spec s hs
 generalize digitF s=d at hd
 refine qAb hT Tryz.func123 rfl rfl rfl rfl ?_;intro E hE
 refine ww ?_
 refine wwc hd ?_
 refine ww ?_
 exact wwr
end Tdoc
namespace Tdoc
open Go Go.Proofs Go.RowKit
theorem repeatL_one (c:UInt8):∀ n,Lib.repeatL [c] n=List.replicate n c
 | 0=>rfl
 | n+1=>by rw [Lib.repeatL,repeatL_one c n];rfl
theorem qBz (n:Nat) (hn:n≤1000000):Spec Tryz.prog 121 [.d (.str [60]),.d (.int .i64 (n:Int))] [] (fun r h'=>r=.d (.str (List.replicate n 60))∧h'=[]) :=
 Spec_lib (funcOk Tryz.func121 rfl rfl) rfl fun G w vals h1 h2 ht hi=>by
  obtain ⟨u,v,rfl,hu,hv⟩:=args2 h1 h2
  rw [hu.str_inv,hv.int_inv]
  refine (Tryz.strings_Repeat ⟨[60].toArray⟩ n w (by omega) (by rw [mk_size];simp;omega)).mono ?_
  rintro e w' ⟨rfl,hb⟩
  refine ⟨_,rfl,?_,hb⟩
  show RepA G _ (.string ⟨(Lib.repeatL [60] n).toArray⟩)
  rw [repeatL_one]
  exact .d (.str _)
theorem replace_fill (s:List UInt8):Lib.replaceAll s [32] [60]=fillS s:=replace_all 32 60 (by decide) s
theorem ReplaceFill_spec (s:List UInt8) (hs:s.length≤1000000):Spec Tryz.prog 196 [.d (.str s),.d (.str [32]),.d (.str [60])] [] (fun r h'=>r=.d (.str (fillS s))∧h'=[]) :=
 Spec_lib (funcOk Tryz.func196 rfl rfl) rfl fun G w vals h1 h2 ht hi=>by
  obtain ⟨u,v,x,rfl,hu,hv,hx⟩:=args3 h1 h2
  rw [hu.str_inv,hv.str_inv,hx.str_inv]
  obtain ⟨_,o,ho,m,t,f,rfl⟩:=ht.2 4 _ rfl
  have hc:=Lib.count_le s [32]
  refine (Tryz.strings_ReplaceAll ⟨s.toArray⟩ ⟨#[32]⟩ ⟨#[60]⟩ m w (by rw [mk_size];omega) (by simp [World.cell?,ho]) (by decide) (by rw [mk_size];show s.length+Lib.count s [32]*1≤_;omega)).mono ?_
  rintro e w' ⟨rfl,hb⟩
  refine ⟨_,rfl,?_,hb⟩
  rw [← replace_fill]
  exact .d (.str _)
theorem wide_take (s:List UInt8) (n:Nat):(s++List.replicate n 60).take n=(wideS s n).take n:=by
 unfold wideS
 rw [List.take_append,List.take_append,List.take_replicate,List.take_replicate,Nat.min_eq_left (by omega),Nat.min_self]
theorem NamesP_spec (sur giv:List UInt8) (w:Int) (h1:sur.length≤100000) (h2:giv.length≤100000):Spec Tryz.prog 122 [.d (.str sur),.d (.str giv),.d (.int .i64 w)] [] (fun r h'=>r=.tup [.d (.str (namesF sur giv w).1),.d (.int .i64 (namesF sur giv w).2)]∧h'=[]):=by
 have hn1:=NameP_spec sur (by omega)
 have hn2:=NameP_spec giv (by omega)
 unfold namesF
 by_cases hg:nameL true sur=false∨nameL true giv=false∨sur=[]
 ·rw [if_pos hg]
  generalize nameL true sur=b1 at hn1 hg
  generalize nameL true giv=b2 at hn2 hg
  refine qAb hT Tryz.func122 rfl rfl rfl rfl ?_;intro E hE
  refine ww ?_
  refine wwc hn1 ?_
  refine ww ?_
  refine wwgc hn2 ?_
  refine ww ?_
  refine qAa rfl (fun c1=>?_) (fun c1=>?_)
  ·refine ww ?_
   exact wwr
  ·exfalso
   rcases hg with rfl | rfl | rfl <;> simp at c1
 ·rw [if_neg hg]
  simp only [not_or,Bool.not_eq_false] at hg
  obtain ⟨g1,g2,g3⟩:=hg
  rw [g1] at hn1
  rw [g2] at hn2
  by_cases hw:w < 1∨w > 64
  ·rw [if_pos hw]
   refine qAb hT Tryz.func122 rfl rfl rfl rfl ?_;intro E hE
   refine ww ?_
   refine wwc hn1 ?_
   refine ww ?_
   refine wwgc hn2 ?_
   refine ww ?_
   refine qAa rfl (fun c1=>?_) (fun c1=>?_)
   ·exact absurd c1 (by simpa using g3)
   refine ww ?_
   refine qAa rfl (fun c2=>?_) (fun c2=>?_)
   ·refine ww ?_
    exact wwr
   ·exact absurd c2 (by simp;omega)
  ·rw [if_neg hw]
   obtain ⟨n,rfl⟩:∃ n:Nat,w=(n:Int):=⟨w.toNat,by omega⟩
   have hR:=qBz n (by omega)
   by_cases h0:giv=[]
   ·have hF:=ReplaceFill_spec sur (by omega)
    have hx:namesS sur giv=fillS sur:=by unfold namesS;rw [if_pos h0];simp
    have hl:=qDq sur
    rw [hx,← wide_take]
    subst h0
    generalize fillS sur=x at hF hl
    refine qAb hT Tryz.func122 rfl rfl rfl rfl ?_;intro E hE
    refine ww ?_
    refine wwc hn1 ?_
    refine ww ?_
    refine wwgc hn2 ?_
    refine ww ?_
    refine qAa rfl (fun c1=>?_) (fun c1=>?_)
    ·exact absurd c1 (by simpa using g3)
    refine ww ?_
    refine qAa rfl (fun c2=>?_) (fun c2=>?_)
    ·exact absurd c2 (by simp;omega)
    refine ww ?_
    refine qAa rfl (fun c3=>?_) (fun c3=>?_)
    ·exact absurd c3 (by simp)
    refine ww ?_
    refine wwc hF ?_
    refine ww ?_
    refine wwc hR ?_
    refine ww ?_
    exact wwr
   ·have hF:=ReplaceFill_spec (sur++([32,32]++giv)) (by simp;omega)
    have hx:namesS sur giv=fillS (sur++([32,32]++giv)):=by unfold namesS;rw [if_neg h0];simp [fillS]
    have hl:(fillS (sur++([32,32]++giv))).length=sur.length+(giv.length+2):=by rw [qDq];simp
    rw [hx,← wide_take]
    generalize fillS (sur++([32,32]++giv))=x at hF hl
    refine qAb hT Tryz.func122 rfl rfl rfl rfl ?_;intro E hE
    refine ww ?_
    refine wwc hn1 ?_
    refine ww ?_
    refine wwgc hn2 ?_
    refine ww ?_
    refine qAa rfl (fun c1=>?_) (fun c1=>?_)
    ·exact absurd c1 (by simpa using g3)
    refine ww ?_
    refine qAa rfl (fun c2=>?_) (fun c2=>?_)
    ·exact absurd c2 (by simp;omega)
    refine ww ?_
    refine qAa rfl (fun c3=>?_) (fun c3=>?_)
    ·refine ww ?_
     refine wwc hF ?_
     refine ww ?_
     refine wwc hR ?_
     refine ww ?_
     exact wwr
    ·exact absurd c3 (by simpa using h0)
end Tdoc
namespace Tdoc
open Go Go.Proofs
theorem cutS_L (s:List UInt8) (a b:Nat):cutS s a b=cutL s (a:Int) (b:Int):=by simp [cutS,cutL,List.drop_take]
theorem qCf (s:List UInt8) (a b:Int) (h0:0≤a) (h:b≤(s.length:Int)):(cutL s a b).length=b.toNat-a.toNat:=by simp [cutL];omega
theorem names_len (s g:List UInt8) (w:Int):(namesF s g w).1.length≤w.toNat:=by
 unfold namesF
 split
 ·simp
 split
 ·simp
 ·simp;omega
theorem Build_spec (z:Zon) (hz:zLen z):Spec Tryz.prog 45 [zAV z] [] (fun r h'=>r=.tup [.d (.sl 1 (encSs (buildF z).1)),.d (.int .i64 (buildF z).2)]∧h'=[]):=by
 have hv:=ValidZ_spec z hz
 by_cases h0:validZ z=0
 case neg =>
  unfold buildF
  rw [if_pos h0]
  generalize validZ z=e at hv h0
  obtain ⟨fmt,kind,state,sur,giv,num,nat,bir,sex,exp,opt,sec⟩:=z
  unfold zAV zCells at hv ⊢
  simp only at hv ⊢
  refine qAb hT Tryz.func45 rfl rfl rfl rfl ?_;intro E hE
  refine qAo ?_
  refine qAu (qAn ?_)
  refine qAd (qCg (i0:=0) rfl rfl rfl) rfl ?_
  refine ww ?_
  refine wwc hv ?_
  refine ww ?_
  refine qAa rfl (fun c1=>?_) (fun c1=>?_)
  ·refine ww ?_
   exact wwr
  ·exact absurd (by simpa using c1) h0
 have ok:=validZ_ok h0
 obtain ⟨z1,z2,z3,z4,z5,z6,z7,z8,z9,z10,z11⟩:=hz
 obtain ⟨o1,o2,o3,o4,o5,o6,o7,o8,o9,o10⟩:=ok
 have hb:buildF z=(buildZ z,0):=by unfold buildF;rw [if_neg (by simp [h0])]
 rw [h0] at hv
 rw [hb]
 clear hb h0
 have hrm:roomF z+(if z.num.length≤9 then 0 else (z.num.length:Int)-9+2)≤(if z.fmt=1 then 15 else if z.fmt=2 then 7 else 14):=by
  unfold roomF;split <;> (try split) <;> (try split) <;> omega
 have hmost:mostN z.fmt≤20:=by unfold mostN;split <;> (try split) <;> omega
 generalize roomF z=room at o9 hrm
 generalize hfin:buildZ z=fin
 obtain ⟨fmt,kind,state,sur,giv,num,nat,bir,sex,exp,opt,sec⟩:=z
 unfold zAV zCells at hv ⊢
 unfold buildZ at hfin
 simp only at hv hfin o1 o2 o3 o4 o5 o6 o7 o8 o9 o10 z1 z2 z3 z4 z5 z6 z7 z8 z9 z10 z11 hrm hmost ⊢
 have hk:=Wide_spec kind 2 (by omega) (by omega)
 have hkl:=qAt kind 2
 have hs:=Wide_spec state 3 (by omega) (by omega)
 have hsl:=qAt state 3
 have hna:=Wide_spec nat 3 (by omega) (by omega)
 have hnal:=qAt nat 3
 have hnu:=number_spec num (by omega)
 have hnul:=number_len o8.2.2 o8.1
 have hbd:=checked_spec bir (by omega)
 have hbl:=qDl o5.2
 have hed:=checked_spec exp (by omega)
 have hel:=qDl o7.2
 have hnm:=Names_spec sur giv (nameW fmt) (by omega) (by omega)
 have hnml:=names_len sur giv (nameW fmt)
 generalize wideS kind 2=k2 at hk hkl hfin
 generalize wideS state 3=s3 at hs hsl hfin
 generalize wideS nat 3=n3 at hna hnal hfin
 generalize numberS num=nn at hnu hnul hfin
 obtain ⟨num1,num2⟩:=nn
 generalize checkedS bir=bd at hbd hbl hfin
 generalize checkedS exp=ed at hed hel hfin
 simp only at hnu hnul hfin
 generalize hm0:nameW fmt=m0 at hnm hnml hfin
 have hm1:m0≤39:=by rw [← hm0];unfold nameW;split <;> (try split) <;> omega
 generalize namesF sur giv m0=nf at hnm hnml hfin
 obtain ⟨nam,ne⟩:=nf
 simp only at hnm hnml hfin
 have har:([.d (.int .i64 0),.d (.int .i64 30),.d (.int .i64 31),.d (.int .i64 39)]:List AV)[fmt.toNat]?=some (.d (.int .i64 m0)):=by
  have:fmt=1∨fmt=2∨fmt=3:=by omega
  rcases this with rfl | rfl | rfl <;> subst hm0 <;> rfl
 have hn2:num2.length≤13:=by rw [hnul.2];split <;> omega
 have hdl:=fun s=>qBc s
 refine qAb hT Tryz.func45 rfl rfl rfl rfl ?_;intro E hE
 refine qAo ?_
 refine qAo ?_
 refine qAu (qAn ?_)
 refine qAd (qCg (i0:=0) rfl rfl rfl) rfl ?_
 refine ww ?_
 refine wwc hv ?_
 refine ww ?_
 refine qAa rfl (fun c1=>?_) (fun c1=>?_)
 ·exact absurd c1 (by simp)
 refine ww ?_
 refine wwc hk ?_
 refine ww ?_
 refine wwc hs ?_
 refine ww ?_
 refine wwc hnu ?_
 refine wwn ?_
 refine qBg (fun i=>bif Nat.beq i 1 then [0] else bif Nat.beq i 4 then [0] else bif Nat.beq i 7 then [1] else bif Nat.beq i 8 then [1] else []) (fun i=>bif Nat.beq i 7 then [1] else bif Nat.beq i 8 then [1] else []) mixed (by kernel_rfl) ?_
 refine wwg ?_
 refine wwdc hbd ?_
 refine wwg ?_
 refine wwdc hed ?_
 refine wwg ?_
 refine qAs (v:=.ptr 1 0) (os:=[.row [.d (.str []),.d (.str [])]]) (fun k hk1 hk2=>allocAt_ok (i0:=1) (t:=129) (i:=⟨.array 2 9,2,32,[.d (.str []),.d (.str [])]⟩) hT rfl rfl (hk2 1 List.mem_cons_self)) rfl ?_
 refine wwg ?_
 refine ww ?_
 refine wwc hna ?_
 refine ww ?_
 refine qAd (qAc (arrIdx_ok hT rfl rfl rfl rfl (by show 0≤fmt∧fmt < 4;omega) har)) rfl ?_
 refine ww ?_
 refine wwc hnm ?_
 refine ww ?_
 refine qAa rfl (fun f1=>?_) (fun f1=>?_)
 ·have f1':fmt=1:=by simpa using f1
  rw [if_pos f1'] at hfin
  have hw:=Wide_spec (num2++opt) 15 (by rw [List.length_append];omega) (by omega)
  have hwl:=qAt (num2++opt) 15
  have hv:=Wide_spec sec 11 (by omega) (by omega)
  have hvl:=qAt sec 11
  rw [List.length_append] at hwl
  have hal:(k2++s3++num1++wideS (num2++opt) 15).length≥30:=by simp only [List.length_append];omega
  have hbl2:(bd++sex++ed++n3++wideS sec 11).length≥29:=by simp only [List.length_append];omega
  have hau:(k2++s3++num1++wideS (num2++opt) 15).length≤100000:=by simp only [List.length_append];omega
  have hbu:(bd++sex++ed++n3++wideS sec 11).length≤100000:=by simp only [List.length_append];omega
  generalize wideS (num2++opt) 15=w15 at hw hwl hal hau hfin
  generalize wideS sec 11=w11 at hv hvl hbl2 hbu hfin
  refine ww ?_
  refine wwc hw ?_
  refine ww ?_
  first | refine qAd (qAc (qAh hT rfl rfl rfl rfl (by decide))) rfl ?_ | refine qAp (qAc (qAh hT rfl rfl rfl rfl (by decide))) rfl rfl ?_
  refine ww ?_
  first | refine qAd (qAc (qAh hT rfl rfl rfl rfl (by decide))) rfl ?_ | refine qAp (qAc (qAh hT rfl rfl rfl rfl (by decide))) rfl rfl ?_
  refine ww ?_
  refine wwc hv ?_
  refine wws ?_
  generalize k2++s3++num1++w15=a at hal hau hfin ⊢
  generalize bd++sex++ed++n3++w11=b at hbl2 hbu hfin ⊢
  rw [show cutS a 5 30=cutL a 5 30 from cutS_L a 5 30,show cutS b 0 7=cutL b 0 7 from cutS_L b 0 7,show cutS b 8 15=cutL b 8 15 from cutS_L b 8 15,show cutS b 18 29=cutL b 18 29 from cutS_L b 18 29] at hfin
  have l1:(cutL a 5 30).length=25:=qCf a 5 30 (by omega) (by omega)
  have l2:(cutL b 0 7).length=7:=qCf b 0 7 (by omega) (by omega)
  have l3:(cutL b 8 15).length=7:=qCf b 8 15 (by omega) (by omega)
  have l4:(cutL b 18 29).length=11:=qCf b 18 29 (by omega) (by omega)
  have hd:=Digit_spec (cutL a 5 30++cutL b 0 7++cutL b 8 15++cutL b 18 29) (by simp only [List.length_append];omega)
  have hdl2:=qBc (cutL a 5 30++cutL b 0 7++cutL b 8 15++cutL b 18 29)
  generalize digitF (cutL a 5 30++cutL b 0 7++cutL b 8 15++cutL b 18 29)=q at hd hdl2 hfin
  obtain ⟨d,de⟩:=q
  simp only at hd hdl2 hfin
  subst hfin
  refine ww ?_
  refine wwc hd ?_
  refine ww ?_
  exact wwr
 have f1':¬ fmt=1:=by simpa using f1
 rw [if_neg f1'] at hfin
 refine ww ?_
 refine qAa rfl (fun f2=>?_) (fun f2=>?_)
 ·have f2':fmt=2:=by simpa using f2
  rw [if_pos f2'] at hfin
  have hw:=Wide_spec (num2++opt) 7 (by rw [List.length_append];omega) (by omega)
  have hwl:=qAt (num2++opt) 7
  rw [List.length_append] at hwl
  have hbl2:(num1++n3++bd++sex++ed++wideS (num2++opt) 7).length≥35:=by simp only [List.length_append];omega
  have hbu:(num1++n3++bd++sex++ed++wideS (num2++opt) 7).length≤100000:=by simp only [List.length_append];omega
  generalize wideS (num2++opt) 7=w7 at hw hwl hbl2 hbu hfin
  refine ww ?_
  first | refine qAd (qAc (qAh hT rfl rfl rfl rfl (by decide))) rfl ?_ | refine qAp (qAc (qAh hT rfl rfl rfl rfl (by decide))) rfl rfl ?_
  refine ww ?_
  first | refine qAd (qAc (qAh hT rfl rfl rfl rfl (by decide))) rfl ?_ | refine qAp (qAc (qAh hT rfl rfl rfl rfl (by decide))) rfl rfl ?_
  refine ww ?_
  refine wwc hw ?_
  refine wws ?_
  generalize num1++n3++bd++sex++ed++w7=b at hbl2 hbu hfin ⊢
  rw [show cutS b 0 10=cutL b 0 10 from cutS_L b 0 10,show cutS b 13 20=cutL b 13 20 from cutS_L b 13 20,show cutS b 21 35=cutL b 21 35 from cutS_L b 21 35] at hfin
  have l1:(cutL b 0 10).length=10:=qCf b 0 10 (by omega) (by omega)
  have l2:(cutL b 13 20).length=7:=qCf b 13 20 (by omega) (by omega)
  have l3:(cutL b 21 35).length=14:=qCf b 21 35 (by omega) (by omega)
  have hd:=Digit_spec (cutL b 0 10++cutL b 13 20++cutL b 21 35) (by simp only [List.length_append];omega)
  have hdl2:=qBc (cutL b 0 10++cutL b 13 20++cutL b 21 35)
  generalize digitF (cutL b 0 10++cutL b 13 20++cutL b 21 35)=q at hd hdl2 hfin
  obtain ⟨d,de⟩:=q
  simp only at hd hdl2 hfin
  subst hfin
  refine ww ?_
  refine wwc hd ?_
  refine ww ?_
  exact wwr
 have f2':¬ fmt=2:=by simpa using f2
 rw [if_neg f2'] at hfin
 have hw:=Wide_spec opt 14 (by omega) (by omega)
 have hwl:=qAt opt 14
 have hd0:=Digit_spec (wideS opt 14) (by omega)
 have hdl0:=qBc (wideS opt 14)
 have hd1:(digitF (wideS opt 14)).1.length=1:=digit_one (qCo 14 o9.2)
 generalize wideS opt 14=w14 at hw hwl hd0 hdl0 hd1 hfin
 generalize digitF w14=q0 at hd0 hdl0 hd1 hfin
 obtain ⟨d0,de0⟩:=q0
 simp only at hd0 hdl0 hd1 hfin
 have fin2:∀ o:List UInt8,o=(if opt=[] then [60] else d0)→o.length=1→(num1++n3++bd++sex++ed++w14++o).length≥43∧(num1++n3++bd++sex++ed++w14++o).length≤100000:=fun o ho h1=>by
  simp only [List.length_append,h1];omega
 refine wwe ?_
 refine qAu (qAn ?_)
 refine wws ?_
 generalize hoe:(if opt=[] then [60] else d0)=o at hfin fin2
 refine qBa (ι:=Unit) (fun _=>[(1,.ptr 0 0),(5,.d (.str (k2++s3))),(6,.d (.str num1)),(8,.ptr 1 0),(9,.d (.str n3)),(11,.d (.str nam)),(20,.d (.str o))])
  (fun _=>[.row [.d (.int .i64 fmt),.d (.str kind),.d (.str state),.d (.str sur),.d (.str giv),.d (.str num),.d (.str nat),.d (.str bir),.d (.str sex),.d (.str exp),.d (.str opt),.d (.str sec)],.row [.d (.str bd),.d (.str ed)]]) (fun _=>o.length=1) ?_ (fun _ ho=>?_)
 ·refine ww ?_
  refine qAa rfl (fun f3=>?_) (fun f3=>?_)
  ·have f3':¬ opt=[]:=by simpa using f3
   rw [if_neg f3'] at hoe
   subst hoe
   refine ww ?_
   refine wwc hw ?_
   refine ww ?_
   refine wwc hd0 ?_
   refine ww ?_
   exact ⟨(),hd1,⟨.refl _,.refl _,.refl _,.refl _,.refl _,.refl _,.refl _,trivial⟩,HLe.refl _⟩
  ·have f3':opt=[]:=by simpa using f3
   rw [if_pos f3'] at hoe
   subst hoe
   refine ww ?_
   exact ⟨(),rfl,⟨.refl _,.refl _,.refl _,.refl _,.refl _,.refl _,.refl _,trivial⟩,HLe.refl _⟩
 obtain ⟨hbl2,hbu⟩:=fin2 o rfl ho
 refine ww ?_
 first | refine qAd (qAc (qAh hT rfl rfl rfl rfl (by decide))) rfl ?_ | refine qAp (qAc (qAh hT rfl rfl rfl rfl (by decide))) rfl rfl ?_
 refine ww ?_
 first | refine qAd (qAc (qAh hT rfl rfl rfl rfl (by decide))) rfl ?_ | refine qAp (qAc (qAh hT rfl rfl rfl rfl (by decide))) rfl rfl ?_
 refine ww ?_
 refine wwc hw ?_
 refine wws ?_
 generalize num1++n3++bd++sex++ed++w14++o=b at hbl2 hbu hfin ⊢
 rw [show cutS b 0 10=cutL b 0 10 from cutS_L b 0 10,show cutS b 13 20=cutL b 13 20 from cutS_L b 13 20,show cutS b 21 43=cutL b 21 43 from cutS_L b 21 43] at hfin
 have l1:(cutL b 0 10).length=10:=qCf b 0 10 (by omega) (by omega)
 have l2:(cutL b 13 20).length=7:=qCf b 13 20 (by omega) (by omega)
 have l3:(cutL b 21 43).length=22:=qCf b 21 43 (by omega) (by omega)
 have hd:=Digit_spec (cutL b 0 10++cutL b 13 20++cutL b 21 43) (by simp only [List.length_append];omega)
 have hdl2:=qBc (cutL b 0 10++cutL b 13 20++cutL b 21 43)
 generalize digitF (cutL b 0 10++cutL b 13 20++cutL b 21 43)=q at hd hdl2 hfin
 obtain ⟨d,de⟩:=q
 simp only at hd hdl2 hfin
 subst hfin
 refine ww ?_
 refine wwc hd ?_
 refine ww ?_
 exact wwr
end Tdoc
namespace Tdoc
open Go Go.Proofs
def linesD (ls:List (List UInt8)):List (List Dat):=ls.map fun s=>[.sl 1 (encB s)]
def shD (L:List Int) (ls:List (List UInt8)):List Dat:=L.map (Dat.int .i64)++[.sl 1 (linesD ls)]
def shC (L:List Int) (ls:List (List UInt8)):List AV:=(shD L ls).map .d
theorem qCm (k:Nat) (L:List Int) (ls:List (List UInt8)):lowH k [.row (shC L ls)]=true:=by
 simp [lowH,lowO,shC,lowL_d]
def plA (L:List Int) (i:Nat):Int:=L.getD (3*i) 0
def plB (L:List Int) (i:Nat):Int:=L.getD (3*i+1) 0
def plC (L:List Int) (i:Nat):Int:=L.getD (3*i+2) 0
def fldG (L:List Int) (ls:List (List UInt8)) (i:Nat):List UInt8:=if plC L i=0 then [] else cutS (ls.getD (plA L i).toNat []) (plB L i).toNat (plB L i+plC L i).toNat
def okG (L:List Int) (ls:List (List UInt8)) (i:Nat):Prop:=plC L i=0∨(0≤plA L i∧(plA L i).toNat < ls.length∧0≤plB L i∧0≤plC L i∧plB L i+plC L i≤((ls.getD (plA L i).toNat []).length:Int)∧plB L i+plC L i≤1000000)
theorem sh_len {L:List Int} (hL:L.length=45) (ls:List (List UInt8)):(shC L ls).length=46:=by simp [shC,shD,hL]
theorem sh_at {L:List Int} (hL:L.length=45) (ls:List (List UInt8)) {k:Nat} (hk:k < 45):(shC L ls)[k]?=some (.d (.int .i64 (L.getD k 0))):=by
 unfold shC shD
 rw [List.getElem?_map,List.getElem?_append_left (by simp;omega),List.getElem?_map,List.getD_eq_getElem?_getD,List.getElem?_eq_getElem (by omega)]
 rfl
theorem sh_last {L:List Int} (hL:L.length=45) (ls:List (List UInt8)):(shC L ls)[45]?=some (.d (.sl 1 (linesD ls))):=by
 unfold shC shD
 rw [List.getElem?_map,List.getElem?_append_right (by simp;omega)]
 simp [hL]
theorem sh_cut {L:List Int} (hL:L.length=45) (ls:List (List UInt8)) {i:Nat} (hi:i < 15):((shC L ls).drop (0+i*3)).take 3=[.d (.int .i64 (plA L i)),.d (.int .i64 (plB L i)),.d (.int .i64 (plC L i))]:=by
 have h0:=sh_at hL ls (k:=3*i) (by omega)
 have h1:=sh_at hL ls (k:=3*i+1) (by omega)
 have h2:=sh_at hL ls (k:=3*i+2) (by omega)
 apply List.ext_getElem?
 intro j
 rw [List.getElem?_take]
 match j with
 | 0=>simp only [Nat.lt_add_one,if_true,show (0:Nat) < 3 by omega];rw [List.getElem?_drop,show 0+i*3+0=3*i by omega,h0];rfl
 | 1=>rw [if_pos (by omega),List.getElem?_drop,show 0+i*3+1=3*i+1 by omega,h1];rfl
 | 2=>rw [if_pos (by omega),List.getElem?_drop,show 0+i*3+2=3*i+2 by omega,h2];rfl
 | j+3=>rw [if_neg (by omega)];rfl
theorem lines_at {ls:List (List UInt8)} {k:Nat} (h:k < ls.length):(linesD ls)[k]?=some [.sl 1 (encB (ls.getD k []))]:=by
 unfold linesD
 rw [List.getElem?_map,List.getD_eq_getElem?_getD,List.getElem?_eq_getElem h]
 rfl
theorem encB_cutL (s:List UInt8) (a b:Int):cutL (encB s) a b=encB (cutL s a b):=by unfold cutL encB;rw [← List.map_drop,← List.map_take]
theorem get_spec (L:List Int) (ls:List (List UInt8)) (i:Nat) (hi:i < 15) (hL:L.length=45) (hok:okG L ls i) :
  Spec Tryz.prog 125 [.ptr 0 0,.d (.int .i64 (i:Int))] [.row (shC L ls)] (fun r h'=>r=.d (.str (fldG L ls i))∧h'=[.row (shC L ls)]):=by
 have hcut:=sh_cut hL ls hi
 have hlen:=sh_len hL ls
 have hlast:=sh_last hL ls
 unfold fldG
 unfold okG at hok
 generalize plA L i=a at *
 generalize plB L i=b at *
 generalize plC L i=c at *
 refine qAb hT Tryz.func125 rfl rfl rfl rfl ?_;intro E hE
 refine ww ?_
 refine qAd (qAc (qAh hT rfl rfl rfl rfl ⟨by omega,by omega⟩)) rfl ?_
 refine qAd (qDj hT rfl rfl rfl (qCu rfl rfl (by rw [hlen];simp;omega) hcut)) rfl ?_
 refine ww ?_
 refine qAa rfl (fun c1=>?_) (fun c1=>?_)
 ·have e:c=0:=by simpa using c1
  rw [if_pos e]
  refine ww ?_
  exact rq ⟨rfl,rfl⟩ rfl (.refl _) (h6:=qCm 1 L ls)
 have e:c≠0:=by simpa using c1
 rcases hok with h0 | ⟨h1,h2,h3,h4,h5,h6⟩
 ·exact absurd h0 e
 rw [if_neg e]
 have hln:=lines_at h2
 generalize ls.getD a.toNat []=s at hln h5
 have hw:IntKind.i64.wrap (b+c)=b+c:=qAe (by omega)
 have hcs:cutS s b.toNat (b+c).toNat=cutL s b (b+c):=by rw [cutS_L,Int.toNat_of_nonneg h3,Int.toNat_of_nonneg (by omega)]
 rw [hcs]
 have hsl:=qAl s
 refine wwe ?_
 refine qAu ?_
 refine AW_draw mixed (by kernel_rfl) ?_
 refine wws ?_
 refine qAp (qBd hT rfl rfl rfl rfl rfl hlast) rfl rfl ?_
 refine wws ?_
 refine qAp (qAc (qAi hT rfl rfl rfl rfl (by omega) hln)) rfl rfl ?_
 refine wws ?_
 rw [hw,encB_cutL]
 refine AWd_step hT rfl rfl rfl (qBk _) ?_
 rw [qBp]
 refine ww ?_
 exact rq ⟨rfl,rfl⟩ rfl (.refl _) (h6:=qCm 1 L ls)
end Tdoc
namespace Tdoc
open Go Go.Proofs
def fitW (w:Nat) (s:List UInt8):List UInt8:=(s++List.replicate w 60).take w
theorem qBb (w:Nat) (s:List UInt8):(fitW w s).length=w:=by simp [fitW]
theorem fitW_eq {w:Nat} {s:List UInt8} (h:s.length=w):fitW w s=s:=by unfold fitW;rw [← h];simp
theorem fitW_wide (w:Nat) (s:List UInt8):fitW w s=(wideS s w).take w:=by
 unfold fitW wideS
 rw [List.take_append,List.take_append,List.take_replicate,List.take_replicate,Nat.min_eq_left (by omega),Nat.min_self]
theorem fitW_le {w:Nat} {s:List UInt8} (h:s.length≤w):fitW w s=wideS s w:=by
 rw [fitW_wide,List.take_of_length_le]
 rw [qAt];omega
def lineF (l:List (Nat×Nat)) (F:Nat→List UInt8):List UInt8:=(l.map fun p=>fitW p.2 (F p.1)).flatten
def updF (F:Nat→List UInt8) (i:Nat) (s:List UInt8):Nat→List UInt8:=fun j=>if j=i then s else F j
def widF (l:List (Nat×Nat)):Nat:=(l.map Prod.snd).sum
theorem lineF_cons (p:Nat×Nat) (l:List (Nat×Nat)) (F:Nat→List UInt8):lineF (p::l) F=fitW p.2 (F p.1)++lineF l F:=rfl
theorem lineF_append (a b:List (Nat×Nat)) (F:Nat→List UInt8):lineF (a++b) F=lineF a F++lineF b F:=by simp [lineF]
theorem qAx (F:Nat→List UInt8):∀ l:List (Nat×Nat),(lineF l F).length=widF l
 | []=>rfl
 | p::l=>by rw [lineF_cons,List.length_append,qBb,qAx F l];simp [widF]
def freeB (l:List (Nat×Nat)) (i:Nat):Bool:=l.all fun p=>!Nat.beq p.1 i
theorem lineF_free {l:List (Nat×Nat)} {i:Nat} (h:freeB l i=true) (F:Nat→List UInt8) (s:List UInt8):lineF l (updF F i s)=lineF l F:=by
 unfold lineF
 congr 1
 refine List.map_congr_left fun p hp=>?_
 unfold freeB at h
 rw [List.all_eq_true] at h
 have:=h p hp
 unfold updF
 rw [if_neg (fun hh=>by rw [hh] at this;simp at this)]
theorem lineF_put {pre post:List (Nat×Nat)} {c i:Nat} (h1:freeB pre i=true) (h2:freeB post i=true) (F:Nat→List UInt8) (s:List UInt8) :
  lineF (pre++(i,c)::post) (updF F i s)=(lineF (pre++(i,c)::post) F).take (widF pre)++fitW c s++(lineF (pre++(i,c)::post) F).drop (widF pre+c):=by
 rw [lineF_append,lineF_append,lineF_cons,lineF_cons,lineF_free h1,lineF_free h2]
 have hl:=qAx F pre
 have hc:=qBb c (F i)
 rw [List.take_left' hl,← List.append_assoc,← List.append_assoc,List.drop_left' (by rw [List.length_append,hl,hc])]
 simp [updF]
theorem lineF_get {pre post:List (Nat×Nat)} {c i:Nat} (F:Nat→List UInt8):((lineF (pre++(i,c)::post) F).drop (widF pre)).take c=fitW c (F i):=by
 rw [lineF_append,lineF_cons,List.drop_left' (qAx F pre),List.take_left' (qBb _ _)]
def segsZ (f:Int) (k:Nat):List (Nat×Nat) :=
 if f=1 then (match k with | 0=>[(0,2),(1,3),(3,9),(4,1),(11,15)] | 1=>[(6,6),(7,1),(8,1),(9,6),(10,1),(5,3),(13,11),(14,1)] | 2=>[(2,30)] | _=>[])
 else if f=2 then (match k with | 0=>[(0,2),(1,3),(2,31)] | 1=>[(3,9),(4,1),(5,3),(6,6),(7,1),(8,1),(9,6),(10,1),(11,7),(14,1)] | _=>[])
 else (match k with | 0=>[(0,2),(1,3),(2,39)] | 1=>[(3,9),(4,1),(5,3),(6,6),(7,1),(8,1),(9,6),(10,1),(11,14),(12,1),(14,1)] | _=>[])
def segCut:List (Nat×Nat)→Nat→Option (List (Nat×Nat)×Nat×List (Nat×Nat))
 | [],_=>none
 | p::l,i=>if p.1=i then some ([],p.2,l) else (segCut l i).map fun x=>(p::x.1,x.2.1,x.2.2)
theorem segCut_eq:∀ {l:List (Nat×Nat)} {i:Nat} {x:List (Nat×Nat)×Nat×List (Nat×Nat)},segCut l i=some x→l=x.1++(i,x.2.1)::x.2.2
 | [],_,_,h=>by cases h
 | p::l,i,x,h=>by
  unfold segCut at h
  split at h
  ·rename_i e
   cases h
   obtain ⟨a,b⟩:=p
   simp only at e
   subst e
   rfl
  ·obtain ⟨y,hy,rfl⟩:=Option.map_eq_some_iff.1 h
   have:=segCut_eq hy
   simp only [List.cons_append]
   rw [← this]
def placeB (f:Int) (i:Nat):Bool :=
 if plC (layD f) i=0 then (List.range 3).all fun k=>freeB (segsZ f k) i
 else decide (0 < plC (layD f) i)&&decide (0≤plA (layD f) i∧plA (layD f) i < layN f)&&((List.range 3).all fun k=>decide ((k:Int)=plA (layD f) i)||freeB (segsZ f k) i)&&match segCut (segsZ f (plA (layD f) i).toNat) i with
  | some (pre,c,post)=>freeB pre i&&freeB post i&&decide (plB (layD f) i=(widF pre:Int))&&decide (plC (layD f) i=(c:Int))&&decide (widF pre+c≤widF (segsZ f (plA (layD f) i).toNat))
  | none=>false
theorem places:∀ f∈[(1:Int),2,3],∀ i∈List.range 15,placeB f i=true:=by decide
structure PlaceOk (f:Int) (i:Nat) (k b c:Nat):Prop where
 a:plA (layD f) i=(k:Int)
 b':plB (layD f) i=(b:Int)
 c':plC (layD f) i=(c:Int)
 pos:0 < c
 lt:(k:Int) < layN f
 fit:b+c≤widF (segsZ f k)
 put:∀ F s,lineF (segsZ f k) (updF F i s)=(lineF (segsZ f k) F).take b++fitW c s++(lineF (segsZ f k) F).drop (b+c)
 get:∀ F,((lineF (segsZ f k) F).drop b).take c=fitW c (F i)
 other:∀ j,j < 3→j≠k→∀ F s,lineF (segsZ f j) (updF F i s)=lineF (segsZ f j) F
theorem place_of {f:Int} (hf:1≤f∧f≤3) {i:Nat} (hi:i < 15):(plC (layD f) i=0∧∀ j,j < 3→∀ F s,lineF (segsZ f j) (updF F i s)=lineF (segsZ f j) F)∨∃ k b c,PlaceOk f i k b c:=by
 have h:=places f (by simp;omega) i (List.mem_range.2 hi)
 unfold placeB at h
 split at h
 ·rename_i h0
  rw [List.all_eq_true] at h
  exact .inl ⟨h0,fun j hj F s=>lineF_free (h j (List.mem_range.2 hj)) F s⟩
 ·simp only [Bool.and_eq_true,decide_eq_true_eq] at h
  obtain ⟨⟨⟨h1,h2⟩,h3⟩,h4⟩:=h
  split at h4
  ·rename_i pre c post hs
   simp only [Bool.and_eq_true,decide_eq_true_eq] at h4
   obtain ⟨⟨⟨⟨g1,g2⟩,g3⟩,g4⟩,g5⟩:=h4
   have he:=segCut_eq hs
   rw [List.all_eq_true] at h3
   have ha:plA (layD f) i=((plA (layD f) i).toNat:Int):=(Int.toNat_of_nonneg h2.1).symm
   refine .inr ⟨(plA (layD f) i).toNat,widF pre,c,ha,g3,g4,by omega,by omega,g5,fun F s=>?_,fun F=>?_,fun j hj hne F s=>?_⟩
   ·simp only at he;rw [he];exact lineF_put g1 g2 F s
   ·simp only at he;rw [he];exact lineF_get F
   ·have:=h3 j (List.mem_range.2 hj)
    simp only [Bool.or_eq_true,decide_eq_true_eq] at this
    rcases this with h | h
    ·omega
    ·exact lineF_free h F s
  ·cases h4
end Tdoc
namespace Tdoc
open Go Go.Proofs
def shO (L:List Int) (n:Nat):List AV:=intsA L++[.bm 1 n]
theorem shO_len {L:List Int} (hL:L.length=45) (n:Nat):(shO L n).length=46:=by simp [shO,intsA,hL]
theorem low_shO (k:Nat) (L:List Int) (n:Nat) (hk:1 < k):lowL k (shO L n)=true:=by
 refine lowL_of fun c hc=>?_
 unfold shO intsA at hc
 rcases List.mem_append.1 hc with hc | hc
 ·obtain ⟨n,_,rfl⟩:=List.mem_map.1 hc;rfl
 ·rw [List.mem_singleton] at hc;subst hc;simp [low];omega
theorem shO_last {L:List Int} (hL:L.length=45) (n:Nat):(shO L n)[45]?=some (.bm 1 n):=by
 unfold shO intsA
 rw [List.getElem?_append_right (by simp;omega)]
 simp [hL]
theorem shO_at {L:List Int} (hL:L.length=45) (n:Nat) {k:Nat} (hk:k < 45):(shO L n)[k]?=some (.d (.int .i64 (L.getD k 0))):=by
 unfold shO intsA
 rw [List.getElem?_append_left (by simp;omega),List.getElem?_map,List.getD_eq_getElem?_getD,List.getElem?_eq_getElem (by omega)]
 rfl
theorem shO_cut {L:List Int} (hL:L.length=45) (n:Nat) {i:Nat} (hi:i < 15):((shO L n).drop (0+i*3)).take 3=[.d (.int .i64 (plA L i)),.d (.int .i64 (plB L i)),.d (.int .i64 (plC L i))]:=by
 have h0:=shO_at hL n (k:=3*i) (by omega)
 have h1:=shO_at hL n (k:=3*i+1) (by omega)
 have h2:=shO_at hL n (k:=3*i+2) (by omega)
 apply List.ext_getElem?
 intro j
 rw [List.getElem?_take]
 match j with
 | 0=>simp only [Nat.lt_add_one,if_true,show (0:Nat) < 3 by omega];rw [List.getElem?_drop,show 0+i*3+0=3*i by omega,h0];rfl
 | 1=>rw [if_pos (by omega),List.getElem?_drop,show 0+i*3+1=3*i+1 by omega,h1];rfl
 | 2=>rw [if_pos (by omega),List.getElem?_drop,show 0+i*3+2=3*i+2 by omega,h2];rfl
 | j+3=>rw [if_neg (by omega)];rfl
theorem setRun_bytes:∀ (new:List UInt8) (pre old post:List UInt8),old.length=new.length→setRun (byteAV (pre++old++post)) pre.length (byteAV new)=byteAV (pre++new++post)
 | [],pre,old,post,h=>by cases old with | nil=>rfl | cons _ _=>simp at h
 | c::new,pre,old,post,h=>by
  cases old with
  | nil=>simp at h
  | cons d old =>
   have e:(byteAV (pre++d::old++post)).set pre.length (.d (.int .u8 (c.toNat:Int)))=byteAV ((pre++[c])++old++post):=by
    unfold byteAV
    rw [List.append_assoc,List.map_append,List.set_append_right _ _ (by simp)]
    simp
   have ih:=setRun_bytes new (pre++[c]) old post (by simpa using h)
   show setRun ((byteAV (pre++d::old++post)).set pre.length (.d (.int .u8 (c.toNat:Int)))) (pre.length+1) (byteAV new)=_
   rw [e]
   simpa using ih
theorem setRun_line {s t:List UInt8} {b c:Nat} (ht:t.length=c) (hf:b+c≤s.length):setRun (byteAV s) b (byteAV t)=byteAV (s.take b++t++s.drop (b+c)):=by
 have e:s=s.take b++(s.drop b).take c++s.drop (b+c):=by
  conv=>lhs;rw [← List.take_append_drop b s,← List.take_append_drop c (s.drop b),List.drop_drop]
  simp
 have h:=setRun_bytes t (s.take b) ((s.drop b).take c) (s.drop (b+c)) (by simp [ht];omega)
 rw [← e] at h
 rwa [show (s.take b).length=b by simp;omega] at h
theorem put20 (L:List Int) (hL:L.length=45) (i:Nat) (hi:i < 15) (b c w:Nat) (ha:plA L i=0) (hb:plB L i=(b:Int)) (hc:plC L i=(c:Int)) (hp:0 < c) (hf:b+c≤w) (hw1:w≤1000) (a0 a1 s:List UInt8) (hl:a0.length=w) (hs:s.length≤100000) :
  Spec Tryz.prog 124 [.ptr 0 0,.d (.int .i64 (i:Int)),.d (.str s)] [.row (shO L 2),.buf 1 2 [.rx 2 0 w,.rx 3 0 w],.row (byteAV a0),.row (byteAV a1)] (fun r h'=>r=.tup []∧h'=[.row (shO L 2),.buf 1 2 [.rx 2 0 w,.rx 3 0 w],.row (byteAV (a0.take b++fitW c s++a0.drop (b+c))),.row (byteAV a1)]):=by
 have hcut:=shO_cut hL 2 hi
 have hlen:=shO_len hL 2
 have hlast:=shO_last hL 2
 have hR:=qBz c (by omega)
 have hw:IntKind.i64.wrap ((b:Int)+(c:Int))=((b+c:Nat):Int):=by rw [qAe (by omega)];simp
 rw [ha,hb,hc] at hcut
 have hrow:setRun (byteAV a0) b (byteAV ((s++List.replicate c 60).take c))=byteAV (a0.take b++fitW c s++a0.drop (b+c)):=setRun_line (qBb c s) (by omega)
 have hml:b+c≤(byteAV a0).length:=by rw [qBy];omega
 have hlow:lowH 4 [.row (shO L 2),.buf 1 2 [.rx 2 0 w,.rx 3 0 w],.row (byteAV (a0.take b++fitW c s++a0.drop (b+c))),.row (byteAV a1)]=true:=by simp only [lowH,lowO,low_shO 4 L 2 (by omega),qBr];rfl
 generalize hsh:shO L 2=cells at *
 refine qAb hT Tryz.func124 rfl rfl rfl rfl ?_;intro E hE
 refine ww ?_
 refine qAd (qAc (qAh hT rfl rfl rfl rfl ⟨by omega,by omega⟩)) rfl ?_
 refine qAd (qDj hT rfl rfl rfl (qCu rfl rfl (by rw [hlen];simp;omega) hcut)) rfl ?_
 refine ww ?_
 refine qAa rfl (fun c1=>?_) (fun c1=>?_)
 case refine_2=>exact absurd c1 (by simp;omega)
 refine wwn ?_
 refine qBg (fun i=>bif Nat.beq i 3 then [0] else bif Nat.beq i 7 then [1] else bif Nat.beq i 21 then [2] else [4]) (fun i=>bif Nat.beq i 21 then [2] else []) mixed (by kernel_rfl) ?_
 refine wwg ?_
 refine qAs (v:=.bm 1 2) (os:=[]) (fun kk hk1 hk2=>qBd hT rfl rfl ((hk2 0 List.mem_cons_self).trans rfl) rfl rfl hlast) rfl ?_
 refine wwg ?_
 refine qCb (qBe (sz:=1) hT rfl rfl rfl rfl (by omega)) rfl rfl ?_
 refine qAs (v:=.rx 2 0 w) (os:=[]) (fun kk hk1 hk2=>qBl hT rfl rfl ((hk2 1 List.mem_cons_self).trans rfl) rfl rfl rfl) rfl ?_
 refine wwg ?_
 refine qAs (v:=.rx 2 b c) (os:=[]) (fun kk hk1 hk2=>rxCutE (l:=b) (r:=b+c) (sz:=1) hT rfl rfl rfl (by omega) ⟨_,rfl⟩ ⟨.i64,by rw [← hw];rfl⟩ (by omega) (by omega) (by simp)) rfl ?_
 refine wwg ?_
 refine wwdc hR ?_
 refine wwg ?_
 refine qAs (v:=.d (.int .i64 (Nat.min (s++List.replicate c 60).length c:Nat))) (os:=[.row (byteAV (a0.take b++fitW c s++a0.drop (b+c)))]) (fun kk hk1 hk2=>copyRxE hT rfl rfl rfl hp rfl ((hk2 2 List.mem_cons_self).trans rfl) hml rfl hrow) rfl ?_
 refine wwg ?_
 exact rxN ⟨rfl,rfl⟩ (h6:=hlow)
theorem put21 (L:List Int) (hL:L.length=45) (i:Nat) (hi:i < 15) (b c w:Nat) (ha:plA L i=1) (hb:plB L i=(b:Int)) (hc:plC L i=(c:Int)) (hp:0 < c) (hf:b+c≤w) (hw1:w≤1000) (a0 a1 s:List UInt8) (hl:a1.length=w) (hs:s.length≤100000) :
  Spec Tryz.prog 124 [.ptr 0 0,.d (.int .i64 (i:Int)),.d (.str s)] [.row (shO L 2),.buf 1 2 [.rx 2 0 w,.rx 3 0 w],.row (byteAV a0),.row (byteAV a1)] (fun r h'=>r=.tup []∧h'=[.row (shO L 2),.buf 1 2 [.rx 2 0 w,.rx 3 0 w],.row (byteAV a0),.row (byteAV (a1.take b++fitW c s++a1.drop (b+c)))]):=by
 have hcut:=shO_cut hL 2 hi
 have hlen:=shO_len hL 2
 have hlast:=shO_last hL 2
 have hR:=qBz c (by omega)
 have hw:IntKind.i64.wrap ((b:Int)+(c:Int))=((b+c:Nat):Int):=by rw [qAe (by omega)];simp
 rw [ha,hb,hc] at hcut
 have hrow:setRun (byteAV a1) b (byteAV ((s++List.replicate c 60).take c))=byteAV (a1.take b++fitW c s++a1.drop (b+c)):=setRun_line (qBb c s) (by omega)
 have hml:b+c≤(byteAV a1).length:=by rw [qBy];omega
 have hlow:lowH 4 [.row (shO L 2),.buf 1 2 [.rx 2 0 w,.rx 3 0 w],.row (byteAV a0),.row (byteAV (a1.take b++fitW c s++a1.drop (b+c)))]=true:=by simp only [lowH,lowO,low_shO 4 L 2 (by omega),qBr];rfl
 generalize hsh:shO L 2=cells at *
 refine qAb hT Tryz.func124 rfl rfl rfl rfl ?_;intro E hE
 refine ww ?_
 refine qAd (qAc (qAh hT rfl rfl rfl rfl ⟨by omega,by omega⟩)) rfl ?_
 refine qAd (qDj hT rfl rfl rfl (qCu rfl rfl (by rw [hlen];simp;omega) hcut)) rfl ?_
 refine ww ?_
 refine qAa rfl (fun c1=>?_) (fun c1=>?_)
 case refine_2=>exact absurd c1 (by simp;omega)
 refine wwn ?_
 refine qBg (fun i=>bif Nat.beq i 3 then [0] else bif Nat.beq i 7 then [1] else bif Nat.beq i 21 then [3] else [4]) (fun i=>bif Nat.beq i 21 then [3] else []) mixed (by kernel_rfl) ?_
 refine wwg ?_
 refine qAs (v:=.bm 1 2) (os:=[]) (fun kk hk1 hk2=>qBd hT rfl rfl ((hk2 0 List.mem_cons_self).trans rfl) rfl rfl hlast) rfl ?_
 refine wwg ?_
 refine qCb (qBe (sz:=1) hT rfl rfl rfl rfl (by omega)) rfl rfl ?_
 refine qAs (v:=.rx 3 0 w) (os:=[]) (fun kk hk1 hk2=>qBl hT rfl rfl ((hk2 1 List.mem_cons_self).trans rfl) rfl rfl rfl) rfl ?_
 refine wwg ?_
 refine qAs (v:=.rx 3 b c) (os:=[]) (fun kk hk1 hk2=>rxCutE (l:=b) (r:=b+c) (sz:=1) hT rfl rfl rfl (by omega) ⟨_,rfl⟩ ⟨.i64,by rw [← hw];rfl⟩ (by omega) (by omega) (by simp)) rfl ?_
 refine wwg ?_
 refine wwdc hR ?_
 refine wwg ?_
 refine qAs (v:=.d (.int .i64 (Nat.min (s++List.replicate c 60).length c:Nat))) (os:=[.row (byteAV (a1.take b++fitW c s++a1.drop (b+c)))]) (fun kk hk1 hk2=>copyRxE hT rfl rfl rfl hp rfl ((hk2 3 List.mem_cons_self).trans rfl) hml rfl hrow) rfl ?_
 refine wwg ?_
 exact rxN ⟨rfl,rfl⟩ (h6:=hlow)
theorem put30 (L:List Int) (hL:L.length=45) (i:Nat) (hi:i < 15) (b c w:Nat) (ha:plA L i=0) (hb:plB L i=(b:Int)) (hc:plC L i=(c:Int)) (hp:0 < c) (hf:b+c≤w) (hw1:w≤1000) (a0 a1 a2 s:List UInt8) (hl:a0.length=w) (hs:s.length≤100000) :
  Spec Tryz.prog 124 [.ptr 0 0,.d (.int .i64 (i:Int)),.d (.str s)] [.row (shO L 3),.buf 1 3 [.rx 2 0 w,.rx 3 0 w,.rx 4 0 w],.row (byteAV a0),.row (byteAV a1),.row (byteAV a2)] (fun r h'=>r=.tup []∧h'=[.row (shO L 3),.buf 1 3 [.rx 2 0 w,.rx 3 0 w,.rx 4 0 w],.row (byteAV (a0.take b++fitW c s++a0.drop (b+c))),.row (byteAV a1),.row (byteAV a2)]):=by
 have hcut:=shO_cut hL 3 hi
 have hlen:=shO_len hL 3
 have hlast:=shO_last hL 3
 have hR:=qBz c (by omega)
 have hw:IntKind.i64.wrap ((b:Int)+(c:Int))=((b+c:Nat):Int):=by rw [qAe (by omega)];simp
 rw [ha,hb,hc] at hcut
 have hrow:setRun (byteAV a0) b (byteAV ((s++List.replicate c 60).take c))=byteAV (a0.take b++fitW c s++a0.drop (b+c)):=setRun_line (qBb c s) (by omega)
 have hml:b+c≤(byteAV a0).length:=by rw [qBy];omega
 have hlow:lowH 5 [.row (shO L 3),.buf 1 3 [.rx 2 0 w,.rx 3 0 w,.rx 4 0 w],.row (byteAV (a0.take b++fitW c s++a0.drop (b+c))),.row (byteAV a1),.row (byteAV a2)]=true:=by simp only [lowH,lowO,low_shO 5 L 3 (by omega),qBr];rfl
 generalize hsh:shO L 3=cells at *
 refine qAb hT Tryz.func124 rfl rfl rfl rfl ?_;intro E hE
 refine ww ?_
 refine qAd (qAc (qAh hT rfl rfl rfl rfl ⟨by omega,by omega⟩)) rfl ?_
 refine qAd (qDj hT rfl rfl rfl (qCu rfl rfl (by rw [hlen];simp;omega) hcut)) rfl ?_
 refine ww ?_
 refine qAa rfl (fun c1=>?_) (fun c1=>?_)
 case refine_2=>exact absurd c1 (by simp;omega)
 refine wwn ?_
 refine qBg (fun i=>bif Nat.beq i 3 then [0] else bif Nat.beq i 7 then [1] else bif Nat.beq i 21 then [2] else [5]) (fun i=>bif Nat.beq i 21 then [2] else []) mixed (by kernel_rfl) ?_
 refine wwg ?_
 refine qAs (v:=.bm 1 3) (os:=[]) (fun kk hk1 hk2=>qBd hT rfl rfl ((hk2 0 List.mem_cons_self).trans rfl) rfl rfl hlast) rfl ?_
 refine wwg ?_
 refine qCb (qBe (sz:=1) hT rfl rfl rfl rfl (by omega)) rfl rfl ?_
 refine qAs (v:=.rx 2 0 w) (os:=[]) (fun kk hk1 hk2=>qBl hT rfl rfl ((hk2 1 List.mem_cons_self).trans rfl) rfl rfl rfl) rfl ?_
 refine wwg ?_
 refine qAs (v:=.rx 2 b c) (os:=[]) (fun kk hk1 hk2=>rxCutE (l:=b) (r:=b+c) (sz:=1) hT rfl rfl rfl (by omega) ⟨_,rfl⟩ ⟨.i64,by rw [← hw];rfl⟩ (by omega) (by omega) (by simp)) rfl ?_
 refine wwg ?_
 refine wwdc hR ?_
 refine wwg ?_
 refine qAs (v:=.d (.int .i64 (Nat.min (s++List.replicate c 60).length c:Nat))) (os:=[.row (byteAV (a0.take b++fitW c s++a0.drop (b+c)))]) (fun kk hk1 hk2=>copyRxE hT rfl rfl rfl hp rfl ((hk2 2 List.mem_cons_self).trans rfl) hml rfl hrow) rfl ?_
 refine wwg ?_
 exact rxN ⟨rfl,rfl⟩ (h6:=hlow)
theorem put31 (L:List Int) (hL:L.length=45) (i:Nat) (hi:i < 15) (b c w:Nat) (ha:plA L i=1) (hb:plB L i=(b:Int)) (hc:plC L i=(c:Int)) (hp:0 < c) (hf:b+c≤w) (hw1:w≤1000) (a0 a1 a2 s:List UInt8) (hl:a1.length=w) (hs:s.length≤100000) :
  Spec Tryz.prog 124 [.ptr 0 0,.d (.int .i64 (i:Int)),.d (.str s)] [.row (shO L 3),.buf 1 3 [.rx 2 0 w,.rx 3 0 w,.rx 4 0 w],.row (byteAV a0),.row (byteAV a1),.row (byteAV a2)] (fun r h'=>r=.tup []∧h'=[.row (shO L 3),.buf 1 3 [.rx 2 0 w,.rx 3 0 w,.rx 4 0 w],.row (byteAV a0),.row (byteAV (a1.take b++fitW c s++a1.drop (b+c))),.row (byteAV a2)]):=by
 have hcut:=shO_cut hL 3 hi
 have hlen:=shO_len hL 3
 have hlast:=shO_last hL 3
 have hR:=qBz c (by omega)
 have hw:IntKind.i64.wrap ((b:Int)+(c:Int))=((b+c:Nat):Int):=by rw [qAe (by omega)];simp
 rw [ha,hb,hc] at hcut
 have hrow:setRun (byteAV a1) b (byteAV ((s++List.replicate c 60).take c))=byteAV (a1.take b++fitW c s++a1.drop (b+c)):=setRun_line (qBb c s) (by omega)
 have hml:b+c≤(byteAV a1).length:=by rw [qBy];omega
 have hlow:lowH 5 [.row (shO L 3),.buf 1 3 [.rx 2 0 w,.rx 3 0 w,.rx 4 0 w],.row (byteAV a0),.row (byteAV (a1.take b++fitW c s++a1.drop (b+c))),.row (byteAV a2)]=true:=by simp only [lowH,lowO,low_shO 5 L 3 (by omega),qBr];rfl
 generalize hsh:shO L 3=cells at *
 refine qAb hT Tryz.func124 rfl rfl rfl rfl ?_;intro E hE
 refine ww ?_
 refine qAd (qAc (qAh hT rfl rfl rfl rfl ⟨by omega,by omega⟩)) rfl ?_
 refine qAd (qDj hT rfl rfl rfl (qCu rfl rfl (by rw [hlen];simp;omega) hcut)) rfl ?_
 refine ww ?_
 refine qAa rfl (fun c1=>?_) (fun c1=>?_)
 case refine_2=>exact absurd c1 (by simp;omega)
 refine wwn ?_
 refine qBg (fun i=>bif Nat.beq i 3 then [0] else bif Nat.beq i 7 then [1] else bif Nat.beq i 21 then [3] else [5]) (fun i=>bif Nat.beq i 21 then [3] else []) mixed (by kernel_rfl) ?_
 refine wwg ?_
 refine qAs (v:=.bm 1 3) (os:=[]) (fun kk hk1 hk2=>qBd hT rfl rfl ((hk2 0 List.mem_cons_self).trans rfl) rfl rfl hlast) rfl ?_
 refine wwg ?_
 refine qCb (qBe (sz:=1) hT rfl rfl rfl rfl (by omega)) rfl rfl ?_
 refine qAs (v:=.rx 3 0 w) (os:=[]) (fun kk hk1 hk2=>qBl hT rfl rfl ((hk2 1 List.mem_cons_self).trans rfl) rfl rfl rfl) rfl ?_
 refine wwg ?_
 refine qAs (v:=.rx 3 b c) (os:=[]) (fun kk hk1 hk2=>rxCutE (l:=b) (r:=b+c) (sz:=1) hT rfl rfl rfl (by omega) ⟨_,rfl⟩ ⟨.i64,by rw [← hw];rfl⟩ (by omega) (by omega) (by simp)) rfl ?_
 refine wwg ?_
 refine wwdc hR ?_
 refine wwg ?_
 refine qAs (v:=.d (.int .i64 (Nat.min (s++List.replicate c 60).length c:Nat))) (os:=[.row (byteAV (a1.take b++fitW c s++a1.drop (b+c)))]) (fun kk hk1 hk2=>copyRxE hT rfl rfl rfl hp rfl ((hk2 3 List.mem_cons_self).trans rfl) hml rfl hrow) rfl ?_
 refine wwg ?_
 exact rxN ⟨rfl,rfl⟩ (h6:=hlow)
theorem put32 (L:List Int) (hL:L.length=45) (i:Nat) (hi:i < 15) (b c w:Nat) (ha:plA L i=2) (hb:plB L i=(b:Int)) (hc:plC L i=(c:Int)) (hp:0 < c) (hf:b+c≤w) (hw1:w≤1000) (a0 a1 a2 s:List UInt8) (hl:a2.length=w) (hs:s.length≤100000) :
  Spec Tryz.prog 124 [.ptr 0 0,.d (.int .i64 (i:Int)),.d (.str s)] [.row (shO L 3),.buf 1 3 [.rx 2 0 w,.rx 3 0 w,.rx 4 0 w],.row (byteAV a0),.row (byteAV a1),.row (byteAV a2)] (fun r h'=>r=.tup []∧h'=[.row (shO L 3),.buf 1 3 [.rx 2 0 w,.rx 3 0 w,.rx 4 0 w],.row (byteAV a0),.row (byteAV a1),.row (byteAV (a2.take b++fitW c s++a2.drop (b+c)))]):=by
 have hcut:=shO_cut hL 3 hi
 have hlen:=shO_len hL 3
 have hlast:=shO_last hL 3
 have hR:=qBz c (by omega)
 have hw:IntKind.i64.wrap ((b:Int)+(c:Int))=((b+c:Nat):Int):=by rw [qAe (by omega)];simp
 rw [ha,hb,hc] at hcut
 have hrow:setRun (byteAV a2) b (byteAV ((s++List.replicate c 60).take c))=byteAV (a2.take b++fitW c s++a2.drop (b+c)):=setRun_line (qBb c s) (by omega)
 have hml:b+c≤(byteAV a2).length:=by rw [qBy];omega
 have hlow:lowH 5 [.row (shO L 3),.buf 1 3 [.rx 2 0 w,.rx 3 0 w,.rx 4 0 w],.row (byteAV a0),.row (byteAV a1),.row (byteAV (a2.take b++fitW c s++a2.drop (b+c)))]=true:=by simp only [lowH,lowO,low_shO 5 L 3 (by omega),qBr];rfl
 generalize hsh:shO L 3=cells at *
 refine qAb hT Tryz.func124 rfl rfl rfl rfl ?_;intro E hE
 refine ww ?_
 refine qAd (qAc (qAh hT rfl rfl rfl rfl ⟨by omega,by omega⟩)) rfl ?_
 refine qAd (qDj hT rfl rfl rfl (qCu rfl rfl (by rw [hlen];simp;omega) hcut)) rfl ?_
 refine ww ?_
 refine qAa rfl (fun c1=>?_) (fun c1=>?_)
 case refine_2=>exact absurd c1 (by simp;omega)
 refine wwn ?_
 refine qBg (fun i=>bif Nat.beq i 3 then [0] else bif Nat.beq i 7 then [1] else bif Nat.beq i 21 then [4] else [5]) (fun i=>bif Nat.beq i 21 then [4] else []) mixed (by kernel_rfl) ?_
 refine wwg ?_
 refine qAs (v:=.bm 1 3) (os:=[]) (fun kk hk1 hk2=>qBd hT rfl rfl ((hk2 0 List.mem_cons_self).trans rfl) rfl rfl hlast) rfl ?_
 refine wwg ?_
 refine qCb (qBe (sz:=1) hT rfl rfl rfl rfl (by omega)) rfl rfl ?_
 refine qAs (v:=.rx 4 0 w) (os:=[]) (fun kk hk1 hk2=>qBl hT rfl rfl ((hk2 1 List.mem_cons_self).trans rfl) rfl rfl rfl) rfl ?_
 refine wwg ?_
 refine qAs (v:=.rx 4 b c) (os:=[]) (fun kk hk1 hk2=>rxCutE (l:=b) (r:=b+c) (sz:=1) hT rfl rfl rfl (by omega) ⟨_,rfl⟩ ⟨.i64,by rw [← hw];rfl⟩ (by omega) (by omega) (by simp)) rfl ?_
 refine wwg ?_
 refine wwdc hR ?_
 refine wwg ?_
 refine qAs (v:=.d (.int .i64 (Nat.min (s++List.replicate c 60).length c:Nat))) (os:=[.row (byteAV (a2.take b++fitW c s++a2.drop (b+c)))]) (fun kk hk1 hk2=>copyRxE hT rfl rfl rfl hp rfl ((hk2 4 List.mem_cons_self).trans rfl) hml rfl hrow) rfl ?_
 refine wwg ?_
 exact rxN ⟨rfl,rfl⟩ (h6:=hlow)
end Tdoc
namespace Tdoc
open Go Go.Proofs
def H3 (F:Nat→List UInt8):List AObj:=[.row (shO (layD 1) 3),.buf 1 3 [.rx 2 0 30,.rx 3 0 30,.rx 4 0 30],.row (byteAV (lineF (segsZ 1 0) F)),.row (byteAV (lineF (segsZ 1 1) F)),.row (byteAV (lineF (segsZ 1 2) F))]
def H2 (f:Int) (w:Nat) (F:Nat→List UInt8):List AObj:=[.row (shO (layD f) 2),.buf 1 2 [.rx 2 0 w,.rx 3 0 w],.row (byteAV (lineF (segsZ f 0) F)),.row (byteAV (lineF (segsZ f 1) F))]
theorem qBs (f:Int):(layD f).length=45:=by unfold layD;split;rfl;split;rfl;split;rfl;simp
theorem rx_at {cells:List AV} {pre s post:List UInt8} {off:Nat} (h:cells=byteAV (pre++s++post)) (hp:pre.length=off) (j:Nat) (c:UInt8) (hj:s[j]?=some c):cells[off+j]?=some (.d (.int .u8 (c.toNat:Int))):=by
 subst h;subst hp
 have hl:=(List.getElem?_eq_some_iff.1 hj).1
 unfold byteAV
 rw [List.getElem?_map,List.append_assoc,List.getElem?_append_right (by omega),List.getElem?_append_left (by omega),show pre.length+j-pre.length=j by omega,hj]
 rfl
theorem cut_parts (s:List UInt8) (b c:Nat):s=s.take b++(s.drop b).take c++s.drop (b+c):=by
 conv=>lhs;rw [← List.take_append_drop b s,← List.take_append_drop c (s.drop b),List.drop_drop]
 simp
theorem putN2 (L:List Int) (hL:L.length=45) (i:Nat) (hi:i < 15) (w:Nat) (hc:plC L i=0) (a0 a1 s:List UInt8) :
  Spec Tryz.prog 124 [.ptr 0 0,.d (.int .i64 (i:Int)),.d (.str s)] [.row (shO L 2),.buf 1 2 [.rx 2 0 w,.rx 3 0 w],.row (byteAV a0),.row (byteAV a1)] (fun r h'=>r=.tup []∧h'=[.row (shO L 2),.buf 1 2 [.rx 2 0 w,.rx 3 0 w],.row (byteAV a0),.row (byteAV a1)]):=by
 have hcut:=shO_cut hL 2 hi
 have hlen:=shO_len hL 2
 rw [hc] at hcut
 have hlow:lowH 4 [.row (shO L 2),.buf 1 2 [.rx 2 0 w,.rx 3 0 w],.row (byteAV a0),.row (byteAV a1)]=true:=by simp only [lowH,lowO,low_shO 4 L 2 (by omega),qBr];rfl
 generalize hsh:shO L 2=cells at *
 refine qAb hT Tryz.func124 rfl rfl rfl rfl ?_;intro E hE
 refine ww ?_
 refine qAd (qAc (qAh hT rfl rfl rfl rfl ⟨by omega,by omega⟩)) rfl ?_
 refine qAd (qDj hT rfl rfl rfl (qCu rfl rfl (by rw [hlen];simp;omega) hcut)) rfl ?_
 refine ww ?_
 refine qAa rfl (fun c1=>?_) (fun c1=>?_)
 ·exact absurd c1 (by simp)
 refine ww ?_
 exact rxN ⟨rfl,rfl⟩ (h6:=hlow)
theorem putN3 (L:List Int) (hL:L.length=45) (i:Nat) (hi:i < 15) (w:Nat) (hc:plC L i=0) (a0 a1 a2 s:List UInt8) :
  Spec Tryz.prog 124 [.ptr 0 0,.d (.int .i64 (i:Int)),.d (.str s)] [.row (shO L 3),.buf 1 3 [.rx 2 0 w,.rx 3 0 w,.rx 4 0 w],.row (byteAV a0),.row (byteAV a1),.row (byteAV a2)] (fun r h'=>r=.tup []∧h'=[.row (shO L 3),.buf 1 3 [.rx 2 0 w,.rx 3 0 w,.rx 4 0 w],.row (byteAV a0),.row (byteAV a1),.row (byteAV a2)]):=by
 have hcut:=shO_cut hL 3 hi
 have hlen:=shO_len hL 3
 rw [hc] at hcut
 have hlow:lowH 5 [.row (shO L 3),.buf 1 3 [.rx 2 0 w,.rx 3 0 w,.rx 4 0 w],.row (byteAV a0),.row (byteAV a1),.row (byteAV a2)]=true:=by simp only [lowH,lowO,low_shO 5 L 3 (by omega),qBr];rfl
 generalize hsh:shO L 3=cells at *
 refine qAb hT Tryz.func124 rfl rfl rfl rfl ?_;intro E hE
 refine ww ?_
 refine qAd (qAc (qAh hT rfl rfl rfl rfl ⟨by omega,by omega⟩)) rfl ?_
 refine qAd (qDj hT rfl rfl rfl (qCu rfl rfl (by rw [hlen];simp;omega) hcut)) rfl ?_
 refine ww ?_
 refine qAa rfl (fun c1=>?_) (fun c1=>?_)
 ·exact absurd c1 (by simp)
 refine ww ?_
 exact rxN ⟨rfl,rfl⟩ (h6:=hlow)
theorem get3 (L:List Int) (hL:L.length=45) (i:Nat) (hi:i < 15) (b c w:Nat) (ha:plA L i=0) (hb:plB L i=(b:Int)) (hc:plC L i=(c:Int)) (hp:0 < c) (hf:b+c≤w) (hw1:w≤1000) (a0 a1 a2:List UInt8) (hl:a0.length=w) :
  Spec Tryz.prog 125 [.ptr 0 0,.d (.int .i64 (i:Int))] [.row (shO L 3),.buf 1 3 [.rx 2 0 w,.rx 3 0 w,.rx 4 0 w],.row (byteAV a0),.row (byteAV a1),.row (byteAV a2)] (fun r h'=>r=.d (.str ((a0.drop b).take c))∧h'=[.row (shO L 3),.buf 1 3 [.rx 2 0 w,.rx 3 0 w,.rx 4 0 w],.row (byteAV a0),.row (byteAV a1),.row (byteAV a2)]):=by
 have hcut:=shO_cut hL 3 hi
 have hlen:=shO_len hL 3
 have hlast:=shO_last hL 3
 have hw:IntKind.i64.wrap ((b:Int)+(c:Int))=((b+c:Nat):Int):=by rw [qAe (by omega)];simp
 rw [ha,hb,hc] at hcut
 have hlow:lowH 5 [.row (shO L 3),.buf 1 3 [.rx 2 0 w,.rx 3 0 w,.rx 4 0 w],.row (byteAV a0),.row (byteAV a1),.row (byteAV a2)]=true:=by simp only [lowH,lowO,low_shO 5 L 3 (by omega),qBr];rfl
 have hsl:((a0.drop b).take c).length=b+c-b:=by simp;omega
 have hat:=rx_at (off:=b) (congrArg byteAV (cut_parts a0 b c)) (by simp;omega)
 generalize hsh:shO L 3=cells at *
 generalize (a0.drop b).take c=fin at *
 generalize hrow:byteAV a0=row at *
 refine qAb hT Tryz.func125 rfl rfl rfl rfl ?_;intro E hE
 refine ww ?_
 refine qAd (qAc (qAh hT rfl rfl rfl rfl ⟨by omega,by omega⟩)) rfl ?_
 refine qAd (qDj hT rfl rfl rfl (qCu rfl rfl (by rw [hlen];simp;omega) hcut)) rfl ?_
 refine ww ?_
 refine qAa rfl (fun c1=>?_) (fun c1=>?_)
 ·exact absurd c1 (by simp;omega)
 refine wwe ?_
 refine qAu ?_
 refine AW_draw mixed (by kernel_rfl) ?_
 refine wws ?_
 refine qAp (qBd hT rfl rfl rfl rfl rfl hlast) rfl rfl ?_
 refine wws ?_
 refine qAp (qAc (qBe (sz:=1) hT rfl rfl rfl rfl (by omega))) rfl rfl ?_
 refine qAp (v:=.rx 2 0 w) (qBl hT rfl rfl rfl rfl rfl rfl) rfl rfl ?_
 refine wws ?_
 refine qAp (rxCutE (v:=.rx 2 b (b+c-b)) (l:=b) (r:=b+c) (sz:=1) hT rfl rfl rfl (by omega) ⟨_,rfl⟩ ⟨.i64,by rw [← hw];rfl⟩ (by omega) (by omega) (by simp)) rfl rfl ?_
 refine qAp (qDh (s:=fin) hT rfl rfl rfl (by omega) rfl hsl (fun j c hj=>hat j c hj)) rfl rfl ?_
 refine ww ?_
 exact rq ⟨rfl,rfl⟩ rfl (.refl _) (h6:=hlow)
theorem get2 (L:List Int) (hL:L.length=45) (i:Nat) (hi:i < 15) (b c w:Nat) (ha:plA L i=1) (hb:plB L i=(b:Int)) (hc:plC L i=(c:Int)) (hp:0 < c) (hf:b+c≤w) (hw1:w≤1000) (a0 a1:List UInt8) (hl:a1.length=w) :
  Spec Tryz.prog 125 [.ptr 0 0,.d (.int .i64 (i:Int))] [.row (shO L 2),.buf 1 2 [.rx 2 0 w,.rx 3 0 w],.row (byteAV a0),.row (byteAV a1)] (fun r h'=>r=.d (.str ((a1.drop b).take c))∧h'=[.row (shO L 2),.buf 1 2 [.rx 2 0 w,.rx 3 0 w],.row (byteAV a0),.row (byteAV a1)]):=by
 have hcut:=shO_cut hL 2 hi
 have hlen:=shO_len hL 2
 have hlast:=shO_last hL 2
 have hw:IntKind.i64.wrap ((b:Int)+(c:Int))=((b+c:Nat):Int):=by rw [qAe (by omega)];simp
 rw [ha,hb,hc] at hcut
 have hlow:lowH 4 [.row (shO L 2),.buf 1 2 [.rx 2 0 w,.rx 3 0 w],.row (byteAV a0),.row (byteAV a1)]=true:=by simp only [lowH,lowO,low_shO 4 L 2 (by omega),qBr];rfl
 have hsl:((a1.drop b).take c).length=b+c-b:=by simp;omega
 have hat:=rx_at (off:=b) (congrArg byteAV (cut_parts a1 b c)) (by simp;omega)
 generalize hsh:shO L 2=cells at *
 generalize (a1.drop b).take c=fin at *
 generalize hrow:byteAV a1=row at *
 refine qAb hT Tryz.func125 rfl rfl rfl rfl ?_;intro E hE
 refine ww ?_
 refine qAd (qAc (qAh hT rfl rfl rfl rfl ⟨by omega,by omega⟩)) rfl ?_
 refine qAd (qDj hT rfl rfl rfl (qCu rfl rfl (by rw [hlen];simp;omega) hcut)) rfl ?_
 refine ww ?_
 refine qAa rfl (fun c1=>?_) (fun c1=>?_)
 ·exact absurd c1 (by simp;omega)
 refine wwe ?_
 refine qAu ?_
 refine AW_draw mixed (by kernel_rfl) ?_
 refine wws ?_
 refine qAp (qBd hT rfl rfl rfl rfl rfl hlast) rfl rfl ?_
 refine wws ?_
 refine qAp (qAc (qBe (sz:=1) hT rfl rfl rfl rfl (by omega))) rfl rfl ?_
 refine qAp (v:=.rx 3 0 w) (qBl hT rfl rfl rfl rfl rfl rfl) rfl rfl ?_
 refine wws ?_
 refine qAp (rxCutE (v:=.rx 3 b (b+c-b)) (l:=b) (r:=b+c) (sz:=1) hT rfl rfl rfl (by omega) ⟨_,rfl⟩ ⟨.i64,by rw [← hw];rfl⟩ (by omega) (by omega) (by simp)) rfl rfl ?_
 refine qAp (qDh (s:=fin) hT rfl rfl rfl (by omega) rfl hsl (fun j c hj=>hat j c hj)) rfl rfl ?_
 refine ww ?_
 exact rq ⟨rfl,rfl⟩ rfl (.refl _) (h6:=hlow)
end Tdoc
namespace Tdoc
open Go Go.Proofs
theorem value_spec (L:List Int) (ls:List (List UInt8)) (i:Nat) (hi:i < 15) (hL:L.length=45) (hok:okG L ls i) (hs:(fldG L ls i).length≤1000000) :
  Spec Tryz.prog 156 [.ptr 0 0,.d (.int .i64 (i:Int))] [.row (shC L ls)] (fun r h'=>r=.d (.str (trimF (fldG L ls i)))∧h'=[.row (shC L ls)]):=by
 have hg:=get_spec L ls i hi hL hok
 have ht:=TrimR_spec (fldG L ls i) hs
 have hlw:=qCm 0 L ls
 generalize fldG L ls i=s at *
 refine qAb hT Tryz.func156 rfl rfl rfl rfl ?_;intro E hE
 refine ww ?_
 refine qAd (callS1 rfl rfl hg [0] (by decide) rfl rfl rfl hlw hlw rfl rfl) rfl ?_
 refine ww ?_
 refine wwc ht ?_
 refine ww ?_
 exact rq ⟨rfl,rfl⟩ rfl (.refl _) (h6:=qCm 1 L ls)
def compG (ls:List (List UInt8)):List UInt8:=match ls with
 | [a,b,_]=>a.drop 5++b.take 7++cutL b 8 15++cutL b 18 29
 | [_,b]=>b.take 10++cutL b 13 20++cutL b 21 ((b.length:Int)-1)
 | _=>[]
theorem composed3_spec (L:List Int) (a b c:List UInt8) (hL:L.length=45) (ha:a.length=30) (hb:b.length=30) :
  Spec Tryz.prog 126 [.ptr 0 0] [.row (shC L [a,b,c])] (fun r h'=>r=.d (.str (compG [a,b,c]))∧h'=[.row (shC L [a,b,c])]):=by
 have hlast:=sh_last hL [a,b,c]
 have h0:(linesD [a,b,c])[((0:Int)).toNat]?=some [.sl 1 (encB a)]:=rfl
 have h1:(linesD [a,b,c])[((1:Int)).toNat]?=some [.sl 1 (encB b)]:=rfl
 have hl1:(cutL b 8 15).length=7:=by rw [qCf b 8 15 (by omega) (by omega)];rfl
 have hl2:(cutL b 18 29).length=11:=by rw [qCf b 18 29 (by omega) (by omega)];rfl
 unfold compG
 simp only
 refine qAb hT Tryz.func126 rfl rfl rfl rfl ?_;intro E hE
 refine ww ?_
 refine qAd (qBd hT rfl rfl rfl rfl rfl hlast) rfl ?_
 refine ww ?_
 refine qAa rfl (fun c1=>?_) (fun c1=>?_)
 rotate_left
 ·exact absurd c1 (by simp [linesD])
 refine ww ?_
 refine qAp (qBd hT rfl rfl rfl rfl rfl hlast) rfl rfl ?_
 refine qAp (qAc (qAi hT rfl rfl rfl rfl (by omega) h0)) rfl rfl ?_
 refine wws ?_
 refine AWd_step hT rfl rfl rfl (qBk _) ?_
 refine wws ?_
 refine qAp (qBd hT rfl rfl rfl rfl rfl hlast) rfl rfl ?_
 refine qAp (qAc (qAi hT rfl rfl rfl rfl (by omega) h1)) rfl rfl ?_
 refine wws ?_
 refine AWd_step hT rfl rfl rfl (qBk _) ?_
 rw [qBp,qBp]
 refine ww ?_
 exact rq ⟨rfl,rfl⟩ rfl (.refl _) (h6:=qCm 1 L _)
theorem composed2_spec (L:List Int) (a b:List UInt8) (hL:L.length=45) (hb:b.length=36∨b.length=44) :
  Spec Tryz.prog 126 [.ptr 0 0] [.row (shC L [a,b])] (fun r h'=>r=.d (.str (compG [a,b]))∧h'=[.row (shC L [a,b])]):=by
 have hlast:=sh_last hL [a,b]
 have h1:(linesD [a,b])[((1:Int)).toNat]?=some [.sl 1 (encB b)]:=rfl
 have hw:IntKind.i64.wrap ((b.length:Int)-1)=(b.length:Int)-1:=qAe (by omega)
 have hl1:(cutL b 13 20).length=7:=by rw [qCf b 13 20 (by omega) (by omega)];rfl
 have hl2:(cutL b 21 ((b.length:Int)-1)).length≤44:=by rw [qCf b 21 _ (by omega) (by omega)];omega
 unfold compG
 simp only
 refine qAb hT Tryz.func126 rfl rfl rfl rfl ?_;intro E hE
 refine ww ?_
 refine qAd (qBd hT rfl rfl rfl rfl rfl hlast) rfl ?_
 refine ww ?_
 refine qAa rfl (fun c1=>?_) (fun c1=>?_)
 ·exact absurd c1 (by simp [linesD])
 refine ww ?_
 refine qAd (qBd hT rfl rfl rfl rfl rfl hlast) rfl ?_
 refine ww ?_
 refine qAd (qAc (qAi hT rfl rfl rfl rfl (by omega) h1)) rfl ?_
 refine ww ?_
 refine qCa hT rfl rfl (qBk _) ?_
 rw [qBp]
 refine ww ?_
 rw [hw]
 refine ww ?_
 exact rq ⟨rfl,rfl⟩ rfl (.refl _) (h6:=qCm 1 L _)
structure OkS (L:List Int) (ls:List (List UInt8)):Prop where
 len:L.length=45
 all:∀ i,i < 15→okG L ls i
 wid:∀ i,i < 15→(fldG L ls i).length≤1000
 w4:plC L 4≠0
 w7:plC L 7≠0
 w10:plC L 10≠0
def dgG (L:List Int) (ls:List (List UInt8)) (i:Nat):List UInt8:=(digitF (fldG L ls i)).1
def okP (L:List Int) (ls:List (List UInt8)) (i:Nat):Bool:=match i with
 | 0=>decide (fldG L ls 4=[60]∨fldG L ls 4=dgG L ls 3)
 | 1=>decide (fldG L ls 7=dgG L ls 6)
 | 2=>decide (fldG L ls 10=dgG L ls 9)
 | _=>decide (plC L 12=0∨(Lib.trimB (fldG L ls 11) 60=[]∧fldG L ls 12=[60])∨fldG L ls 12=dgG L ls 11)
def endG (L:List Int) (ls:List (List UInt8)) (cg:List UInt8):Bool:=fldG L ls 14 == (digitF cg).1
def restG (L:List Int) (ls:List (List UInt8)) (cg:List UInt8) (i:Nat):Bool:=match i with
 | 0=>okP L ls 0&&(okP L ls 1&&(okP L ls 2&&(okP L ls 3&&endG L ls cg)))
 | 1=>okP L ls 1&&(okP L ls 2&&(okP L ls 3&&endG L ls cg))
 | 2=>okP L ls 2&&(okP L ls 3&&endG L ls cg)
 | 3=>okP L ls 3&&endG L ls cg
 | _=>endG L ls cg
theorem checked_spec2 (L:List Int) (ls:List (List UInt8)) (cg:List UInt8) (hS:OkS L ls) (hcl:cg.length≤1000)
  (hcomp:Spec Tryz.prog 126 [.ptr 0 0] [.row (shC L ls)] (fun r h'=>r=.d (.str cg)∧h'=[.row (shC L ls)])) :
  Spec Tryz.prog 153 [.ptr 0 0] [.row (shC L ls)] (fun r h'=>r=.d (.bool (restG L ls cg 0))∧h'=[.row (shC L ls)]):=by
 have hget:=fun i hi=>get_spec L ls i hi hS.len (hS.all i hi)
 have hdg:=fun i hi=>qBw (fldG L ls i) (by have:=hS.wid i hi;omega)
 have htr:=fun i hi=>Trim60_spec (fldG L ls i) (by have:=hS.wid i hi;omega)
 have hdc:=qBw cg (by omega)
 have hlw:=qCm 0 L ls
 have hat:=fun k hk=>sh_at hS.len ls (k:=k) hk
 have hw4:=hS.w4
 have hw7:=hS.w7
 have hw10:=hS.w10
 generalize hfin:restG L ls cg 0=fin
 refine qAb hT Tryz.func153 rfl rfl rfl rfl ?_;intro E hE
 refine ww ?_
 refine qBu (ι:=Nat) (fun i=>[(0,.ptr 0 0),(12,.agg [.d (.int .i64 3),.d (.int .i64 4),.d (.int .i64 6),.d (.int .i64 7),.d (.int .i64 9),.d (.int .i64 10),.d (.int .i64 11),.d (.int .i64 12)]),(13,.d (.int .i64 (i:Int)))]) (fun _=>[.row (shC L ls)])
  (fun i=>i≤4∧restG L ls cg i=fin) (fun i=>4-i) 0 ⟨by omega,hfin⟩ ⟨.refl _,.refl _,.refl _,trivial⟩ (HLe.refl _) ?_
 rintro i ⟨hi,hg⟩
 refine ww ?_
 refine qAa rfl (fun c1=>?_) (fun c1=>?_)
 rotate_left
 ·have c1':i=4:=by simp at c1;omega
  subst c1'
  have hgg:=hget 14 (by omega)
  have hg':endG L ls cg=fin:=hg
  unfold endG at hg'
  refine ww ?_
  refine qAd (callS1 rfl rfl hgg [0] (by decide) rfl rfl rfl hlw hlw rfl rfl) rfl ?_
  refine ww ?_
  refine qAd (callS1 rfl rfl hcomp [0] (by decide) rfl rfl rfl hlw hlw rfl rfl) rfl ?_
  refine ww ?_
  refine wwc hdc ?_
  refine ww ?_
  rw [hg']
  exact rq ⟨rfl,rfl⟩ rfl (.refl _) (h6:=qCm 1 L ls)
 have c1':i < 4:=by simp at c1;omega
 have h4:i=0∨i=1∨i=2∨i=3:=by omega
 rcases h4 with rfl | rfl | rfl | rfl
 ·have gp:=hget 3 (by omega)
  have gq:=hget 4 (by omega)
  have gd:=hdg 3 (by omega)
  have gt:=htr 3 (by omega)
  have gw:=hat 14 (by omega)
  have hg':(okP L ls 0&&restG L ls cg 1)=fin:=hg
  have hok:okP L ls 0=decide (fldG L ls 4=[60]∨fldG L ls 4=(digitF (fldG L ls 3)).1):=rfl
  have hpc:plC L 4=L.getD 14 0:=rfl
  rw [← hpc] at gw
  generalize fldG L ls 3=sp at *
  generalize fldG L ls 4=sq at *
  generalize (digitF sp).1=dg at *
  generalize Lib.trimB sp 60=tr at *
  generalize plC L 4=wq at *
  refine ww ?_
  refine qAd (qAc (arrIdxN_ok hT rfl rfl rfl rfl ⟨by decide,by decide⟩ (by decide) rfl)) rfl ?_
  refine ww ?_
  refine qAp (qAc (qAh hT rfl rfl rfl rfl (by decide))) rfl rfl ?_
  refine ww ?_
  refine qAp (callS1 rfl rfl gp [0] (by decide) rfl rfl rfl hlw hlw rfl rfl) rfl rfl ?_
  refine ww ?_
  refine qAp (qAc (qAh hT rfl rfl rfl rfl (by decide))) rfl rfl ?_
  refine ww ?_
  refine qAp (callS1 rfl rfl gq [0] (by decide) rfl rfl rfl hlw hlw rfl rfl) rfl rfl ?_
  refine ww ?_
  refine wwc gt ?_
  refine ww ?_
  refine qAp (qAc (qAh hT rfl rfl rfl rfl (by decide))) rfl rfl ?_
  refine ww ?_
  refine qAp (qAc (qAh hT rfl rfl rfl rfl (by decide))) rfl rfl ?_
  refine ww ?_
  refine qAp (qBd hT rfl rfl rfl rfl rfl gw) rfl rfl ?_
  refine ww ?_
  refine qAa rfl (fun c27=>?_) (fun c27=>?_)
  ·exact absurd (by simpa using c27) hw4
  refine ww ?_
  refine qAd (qAc (qAh hT rfl rfl rfl rfl (by decide))) rfl ?_
  refine ww ?_
  refine qAa rfl (fun c37=>?_) (fun c37=>?_)
  ·refine ww ?_
   refine ⟨1,[_],⟨by omega,?_⟩,by omega,⟨.refl _,.refl _,.refl _,trivial⟩,HLe.refl _,hE,rfl,qCm 1 L ls⟩
   have h1:okP L ls 0=true:=by
    rw [hok];simp at c37;simp [c37]
   rw [h1,Bool.true_and] at hg';exact hg'
  refine ww ?_
  refine qAd (qAc (qAh hT rfl rfl rfl rfl (by decide))) rfl ?_
  refine ww ?_
  refine qAa rfl (fun c45=>?_) (fun c45=>?_)
  ·exact absurd c45 (by simp)
  refine ww ?_
  refine wwc gd ?_
  refine ww ?_
  refine qAa rfl (fun c56=>?_) (fun c56=>?_)
  ·have h1:okP L ls 0=false:=by
    rw [hok];simp at c37 c56;simp [c37,c56]
   rw [h1,Bool.false_and] at hg'
   subst hg'
   refine ww ?_
   exact rq ⟨rfl,rfl⟩ rfl (.refl _) (h6:=qCm 1 L ls)
  refine ww ?_
  refine ⟨1,[_],⟨by omega,?_⟩,by omega,⟨.refl _,.refl _,.refl _,trivial⟩,HLe.refl _,hE,rfl,qCm 1 L ls⟩
  have h1:okP L ls 0=true:=by
   rw [hok];simp at c56;simp [c56]
  rw [h1,Bool.true_and] at hg';exact hg'
 ·have gp:=hget 6 (by omega)
  have gq:=hget 7 (by omega)
  have gd:=hdg 6 (by omega)
  have gt:=htr 6 (by omega)
  have gw:=hat 23 (by omega)
  have hg':(okP L ls 1&&restG L ls cg 2)=fin:=hg
  have hok:okP L ls 1=decide (fldG L ls 7=(digitF (fldG L ls 6)).1):=rfl
  have hpc:plC L 7=L.getD 23 0:=rfl
  rw [← hpc] at gw
  generalize fldG L ls 6=sp at *
  generalize fldG L ls 7=sq at *
  generalize (digitF sp).1=dg at *
  generalize Lib.trimB sp 60=tr at *
  generalize plC L 7=wq at *
  refine ww ?_
  refine qAd (qAc (arrIdxN_ok hT rfl rfl rfl rfl ⟨by decide,by decide⟩ (by decide) rfl)) rfl ?_
  refine ww ?_
  refine qAp (qAc (qAh hT rfl rfl rfl rfl (by decide))) rfl rfl ?_
  refine ww ?_
  refine qAp (callS1 rfl rfl gp [0] (by decide) rfl rfl rfl hlw hlw rfl rfl) rfl rfl ?_
  refine ww ?_
  refine qAp (qAc (qAh hT rfl rfl rfl rfl (by decide))) rfl rfl ?_
  refine ww ?_
  refine qAp (callS1 rfl rfl gq [0] (by decide) rfl rfl rfl hlw hlw rfl rfl) rfl rfl ?_
  refine ww ?_
  refine wwc gt ?_
  refine ww ?_
  refine qAp (qAc (qAh hT rfl rfl rfl rfl (by decide))) rfl rfl ?_
  refine ww ?_
  refine qAp (qAc (qAh hT rfl rfl rfl rfl (by decide))) rfl rfl ?_
  refine ww ?_
  refine qAp (qBd hT rfl rfl rfl rfl rfl gw) rfl rfl ?_
  refine ww ?_
  refine qAa rfl (fun c27=>?_) (fun c27=>?_)
  ·exact absurd (by simpa using c27) hw7
  refine ww ?_
  refine qAd (qAc (qAh hT rfl rfl rfl rfl (by decide))) rfl ?_
  refine ww ?_
  refine qAa rfl (fun c37=>?_) (fun c37=>?_)
  ·exact absurd c37 (by simp)
  refine ww ?_
  refine qAd (qAc (qAh hT rfl rfl rfl rfl (by decide))) rfl ?_
  refine ww ?_
  refine qAa rfl (fun c45=>?_) (fun c45=>?_)
  ·exact absurd c45 (by simp)
  refine ww ?_
  refine wwc gd ?_
  refine ww ?_
  refine qAa rfl (fun c56=>?_) (fun c56=>?_)
  ·have h1:okP L ls 1=false:=by
    rw [hok];simp at c56;simp [c56]
   rw [h1,Bool.false_and] at hg'
   subst hg'
   refine ww ?_
   exact rq ⟨rfl,rfl⟩ rfl (.refl _) (h6:=qCm 1 L ls)
  refine ww ?_
  refine ⟨2,[_],⟨by omega,?_⟩,by omega,⟨.refl _,.refl _,.refl _,trivial⟩,HLe.refl _,hE,rfl,qCm 1 L ls⟩
  have h1:okP L ls 1=true:=by
   rw [hok];simp at c56;simp [c56]
  rw [h1,Bool.true_and] at hg';exact hg'
 ·have gp:=hget 9 (by omega)
  have gq:=hget 10 (by omega)
  have gd:=hdg 9 (by omega)
  have gt:=htr 9 (by omega)
  have gw:=hat 32 (by omega)
  have hg':(okP L ls 2&&restG L ls cg 3)=fin:=hg
  have hok:okP L ls 2=decide (fldG L ls 10=(digitF (fldG L ls 9)).1):=rfl
  have hpc:plC L 10=L.getD 32 0:=rfl
  rw [← hpc] at gw
  generalize fldG L ls 9=sp at *
  generalize fldG L ls 10=sq at *
  generalize (digitF sp).1=dg at *
  generalize Lib.trimB sp 60=tr at *
  generalize plC L 10=wq at *
  refine ww ?_
  refine qAd (qAc (arrIdxN_ok hT rfl rfl rfl rfl ⟨by decide,by decide⟩ (by decide) rfl)) rfl ?_
  refine ww ?_
  refine qAp (qAc (qAh hT rfl rfl rfl rfl (by decide))) rfl rfl ?_
  refine ww ?_
  refine qAp (callS1 rfl rfl gp [0] (by decide) rfl rfl rfl hlw hlw rfl rfl) rfl rfl ?_
  refine ww ?_
  refine qAp (qAc (qAh hT rfl rfl rfl rfl (by decide))) rfl rfl ?_
  refine ww ?_
  refine qAp (callS1 rfl rfl gq [0] (by decide) rfl rfl rfl hlw hlw rfl rfl) rfl rfl ?_
  refine ww ?_
  refine wwc gt ?_
  refine ww ?_
  refine qAp (qAc (qAh hT rfl rfl rfl rfl (by decide))) rfl rfl ?_
  refine ww ?_
  refine qAp (qAc (qAh hT rfl rfl rfl rfl (by decide))) rfl rfl ?_
  refine ww ?_
  refine qAp (qBd hT rfl rfl rfl rfl rfl gw) rfl rfl ?_
  refine ww ?_
  refine qAa rfl (fun c27=>?_) (fun c27=>?_)
  ·exact absurd (by simpa using c27) hw10
  refine ww ?_
  refine qAd (qAc (qAh hT rfl rfl rfl rfl (by decide))) rfl ?_
  refine ww ?_
  refine qAa rfl (fun c37=>?_) (fun c37=>?_)
  ·exact absurd c37 (by simp)
  refine ww ?_
  refine qAd (qAc (qAh hT rfl rfl rfl rfl (by decide))) rfl ?_
  refine ww ?_
  refine qAa rfl (fun c45=>?_) (fun c45=>?_)
  ·exact absurd c45 (by simp)
  refine ww ?_
  refine wwc gd ?_
  refine ww ?_
  refine qAa rfl (fun c56=>?_) (fun c56=>?_)
  ·have h1:okP L ls 2=false:=by
    rw [hok];simp at c56;simp [c56]
   rw [h1,Bool.false_and] at hg'
   subst hg'
   refine ww ?_
   exact rq ⟨rfl,rfl⟩ rfl (.refl _) (h6:=qCm 1 L ls)
  refine ww ?_
  refine ⟨3,[_],⟨by omega,?_⟩,by omega,⟨.refl _,.refl _,.refl _,trivial⟩,HLe.refl _,hE,rfl,qCm 1 L ls⟩
  have h1:okP L ls 2=true:=by
   rw [hok];simp at c56;simp [c56]
  rw [h1,Bool.true_and] at hg';exact hg'
 ·have gp:=hget 11 (by omega)
  have gq:=hget 12 (by omega)
  have gd:=hdg 11 (by omega)
  have gt:=htr 11 (by omega)
  have gw:=hat 38 (by omega)
  have hg':(okP L ls 3&&restG L ls cg 4)=fin:=hg
  have hok:okP L ls 3=decide (plC L 12=0∨(Lib.trimB (fldG L ls 11) 60=[]∧fldG L ls 12=[60])∨fldG L ls 12=(digitF (fldG L ls 11)).1):=rfl
  have hpc:plC L 12=L.getD 38 0:=rfl
  rw [← hpc] at gw
  generalize fldG L ls 11=sp at *
  generalize fldG L ls 12=sq at *
  generalize (digitF sp).1=dg at *
  generalize Lib.trimB sp 60=tr at *
  generalize plC L 12=wq at *
  refine ww ?_
  refine qAd (qAc (arrIdxN_ok hT rfl rfl rfl rfl ⟨by decide,by decide⟩ (by decide) rfl)) rfl ?_
  refine ww ?_
  refine qAp (qAc (qAh hT rfl rfl rfl rfl (by decide))) rfl rfl ?_
  refine ww ?_
  refine qAp (callS1 rfl rfl gp [0] (by decide) rfl rfl rfl hlw hlw rfl rfl) rfl rfl ?_
  refine ww ?_
  refine qAp (qAc (qAh hT rfl rfl rfl rfl (by decide))) rfl rfl ?_
  refine ww ?_
  refine qAp (callS1 rfl rfl gq [0] (by decide) rfl rfl rfl hlw hlw rfl rfl) rfl rfl ?_
  refine ww ?_
  refine wwc gt ?_
  refine ww ?_
  refine qAp (qAc (qAh hT rfl rfl rfl rfl (by decide))) rfl rfl ?_
  refine ww ?_
  refine qAp (qAc (qAh hT rfl rfl rfl rfl (by decide))) rfl rfl ?_
  refine ww ?_
  refine qAp (qBd hT rfl rfl rfl rfl rfl gw) rfl rfl ?_
  refine ww ?_
  refine qAa rfl (fun c27=>?_) (fun c27=>?_)
  ·refine ww ?_
   refine ⟨4,[_],⟨by omega,?_⟩,by omega,⟨.refl _,.refl _,.refl _,trivial⟩,HLe.refl _,hE,rfl,qCm 1 L ls⟩
   have h1:okP L ls 3=true:=by
    rw [hok];simp at c27;simp [c27]
   rw [h1,Bool.true_and] at hg';exact hg'
  refine ww ?_
  refine qAd (qAc (qAh hT rfl rfl rfl rfl (by decide))) rfl ?_
  refine ww ?_
  refine qAa rfl (fun c37=>?_) (fun c37=>?_)
  ·exact absurd c37 (by simp)
  refine ww ?_
  refine qAd (qAc (qAh hT rfl rfl rfl rfl (by decide))) rfl ?_
  refine ww ?_
  refine qAa rfl (fun c45=>?_) (fun c45=>?_)
  ·refine ww ?_
   refine ⟨4,[_],⟨by omega,?_⟩,by omega,⟨.refl _,.refl _,.refl _,trivial⟩,HLe.refl _,hE,rfl,qCm 1 L ls⟩
   have h1:okP L ls 3=true:=by
    rw [hok];simp at c45;simp [c45]
   rw [h1,Bool.true_and] at hg';exact hg'
  refine ww ?_
  refine wwc gd ?_
  refine ww ?_
  refine qAa rfl (fun c56=>?_) (fun c56=>?_)
  ·have h1:okP L ls 3=false:=by
    rw [hok];simp at c27 c45 c56;simp [c27,c56];exact c45
   rw [h1,Bool.false_and] at hg'
   subst hg'
   refine ww ?_
   exact rq ⟨rfl,rfl⟩ rfl (.refl _) (h6:=qCm 1 L ls)
  refine ww ?_
  refine ⟨4,[_],⟨by omega,?_⟩,by omega,⟨.refl _,.refl _,.refl _,trivial⟩,HLe.refl _,hE,rfl,qCm 1 L ls⟩
  have h1:okP L ls 3=true:=by
   rw [hok];simp at c56;simp [c56]
  rw [h1,Bool.true_and] at hg';exact hg'
end Tdoc
namespace Tdoc
open Go Go.Proofs
theorem rx_all (s:List UInt8) (j:Nat) (c:UInt8) (hj:s[j]?=some c):(byteAV s)[0+j]?=some (.d (.int .u8 (c.toNat:Int))):=by
 rw [Nat.zero_add];unfold byteAV;rw [List.getElem?_map,hj];rfl
theorem comp3 (L:List Int) (hL:L.length=45) (a b c:List UInt8) (ha:a.length=30) (hb:b.length=30) :
  Spec Tryz.prog 126 [.ptr 0 0] [.row (shO L 3),.buf 1 3 [.rx 2 0 30,.rx 3 0 30,.rx 4 0 30],.row (byteAV a),.row (byteAV b),.row (byteAV c)]
   (fun r h'=>r=.d (.str (compG [a,b,c]))∧h'=[.row (shO L 3),.buf 1 3 [.rx 2 0 30,.rx 3 0 30,.rx 4 0 30],.row (byteAV a),.row (byteAV b),.row (byteAV c)]):=by
 have hlast:=shO_last hL 3
 have hl1:(cutL b 8 15).length=7:=by rw [qCf b 8 15 (by omega) (by omega)];rfl
 have hl2:(cutL b 18 29).length=11:=by rw [qCf b 18 29 (by omega) (by omega)];rfl
 have hra:=rx_all a
 have hrb:=rx_all b
 have hlow:lowH 5 [.row (shO L 3),.buf 1 3 [.rx 2 0 30,.rx 3 0 30,.rx 4 0 30],.row (byteAV a),.row (byteAV b),.row (byteAV c)]=true:=by simp only [lowH,lowO,low_shO 5 L 3 (by omega),qBr];rfl
 unfold compG
 simp only
 generalize shO L 3=cells at *
 generalize byteAV a=ra at *
 generalize byteAV b=rb at *
 generalize byteAV c=rc at *
 refine qAb hT Tryz.func126 rfl rfl rfl rfl ?_;intro E hE
 refine ww ?_
 refine qAd (qBd hT rfl rfl rfl rfl rfl hlast) rfl ?_
 refine ww ?_
 refine qAa rfl (fun c1=>?_) (fun c1=>?_)
 rotate_left
 ·exact absurd c1 (by decide)
 refine ww ?_
 refine qAp (qBd hT rfl rfl rfl rfl rfl hlast) rfl rfl ?_
 refine qAp (qAc (qBe (sz:=1) hT rfl rfl rfl rfl (by omega))) rfl rfl ?_
 refine qAp (v:=.rx 2 0 30) (qBl hT rfl rfl rfl rfl rfl rfl) rfl rfl ?_
 refine qAp (qDh (s:=a) hT rfl rfl rfl (by omega) rfl ha hra) rfl rfl ?_
 refine wws ?_
 refine qAp (qBd hT rfl rfl rfl rfl rfl hlast) rfl rfl ?_
 refine qAp (qAc (qBe (sz:=1) hT rfl rfl rfl rfl (by omega))) rfl rfl ?_
 refine qAp (v:=.rx 3 0 30) (qBl hT rfl rfl rfl rfl rfl rfl) rfl rfl ?_
 refine qAp (qDh (s:=b) hT rfl rfl rfl (by omega) rfl hb hrb) rfl rfl ?_
 refine ww ?_
 exact rq ⟨rfl,rfl⟩ rfl (.refl _) (h6:=hlow)
theorem comp2 (L:List Int) (hL:L.length=45) (w:Nat) (hw0:w=36∨w=44) (a b:List UInt8) (hb:b.length=w) :
  Spec Tryz.prog 126 [.ptr 0 0] [.row (shO L 2),.buf 1 2 [.rx 2 0 w,.rx 3 0 w],.row (byteAV a),.row (byteAV b)]
   (fun r h'=>r=.d (.str (compG [a,b]))∧h'=[.row (shO L 2),.buf 1 2 [.rx 2 0 w,.rx 3 0 w],.row (byteAV a),.row (byteAV b)]):=by
 have hlast:=shO_last hL 2
 have hw:IntKind.i64.wrap ((b.length:Int)-1)=(b.length:Int)-1:=qAe (by omega)
 have hl1:(cutL b 13 20).length=7:=by rw [qCf b 13 20 (by omega) (by omega)];rfl
 have hl2:(cutL b 21 ((b.length:Int)-1)).length≤44:=by rw [qCf b 21 _ (by omega) (by omega)];omega
 have hrb:=rx_all b
 have hlow:lowH 4 [.row (shO L 2),.buf 1 2 [.rx 2 0 w,.rx 3 0 w],.row (byteAV a),.row (byteAV b)]=true:=by simp only [lowH,lowO,low_shO 4 L 2 (by omega),qBr];rfl
 unfold compG
 simp only
 generalize shO L 2=cells at *
 generalize byteAV a=ra at *
 generalize byteAV b=rb at *
 refine qAb hT Tryz.func126 rfl rfl rfl rfl ?_;intro E hE
 refine ww ?_
 refine qAd (qBd hT rfl rfl rfl rfl rfl hlast) rfl ?_
 refine ww ?_
 refine qAa rfl (fun c1=>?_) (fun c1=>?_)
 ·exact absurd c1 (by decide)
 refine ww ?_
 refine qAd (qBd hT rfl rfl rfl rfl rfl hlast) rfl ?_
 refine qAd (qAc (qBe (sz:=1) hT rfl rfl rfl rfl (by omega))) rfl ?_
 refine qAd (v:=.rx 3 0 w) (qBl hT rfl rfl rfl rfl rfl rfl) rfl ?_
 refine qAd (qDh (s:=b) hT rfl rfl rfl (by omega) rfl hb hrb) rfl ?_
 refine ww ?_
 rw [hw]
 refine ww ?_
 exact rq ⟨rfl,rfl⟩ rfl (.refl _) (h6:=hlow)
theorem put3_spec (F:Nat→List UInt8) (i:Nat) (hi:i < 15) (s:List UInt8) (hs:s.length≤100000):Spec Tryz.prog 124 [.ptr 0 0,.d (.int .i64 (i:Int)),.d (.str s)] (H3 F) (fun r h'=>r=.tup []∧h'=H3 (updF F i s)):=by
 have hl:∀ k,(lineF (segsZ 1 k) F).length=widF (segsZ 1 k):=fun k=>qAx F _
 rcases place_of (f:=1) (by omega) hi with ⟨h0,ho⟩ | ⟨k,b,c,p⟩
 ·unfold H3
  rw [ho 0 (by omega),ho 1 (by omega),ho 2 (by omega)]
  exact putN3 (layD 1) (qBs 1) i hi 30 h0 _ _ _ s
 ·have hk:k < 3:=by have:=p.lt;unfold layN at this;simp at this;omega
  have hw:∀ k,k < 3→widF (segsZ 1 k)=30:=by decide
  have hf:=p.fit
  rw [hw k hk] at hf
  unfold H3
  match k,hk,p with
  | 0,_,p =>
   rw [p.put,p.other 1 (by omega) (by omega),p.other 2 (by omega) (by omega)]
   exact put30 (layD 1) (qBs 1) i hi b c 30 p.a p.b' p.c' p.pos hf (by omega) _ _ _ s (by rw [hl,hw 0 (by omega)]) hs
  | 1,_,p =>
   rw [p.put,p.other 0 (by omega) (by omega),p.other 2 (by omega) (by omega)]
   exact put31 (layD 1) (qBs 1) i hi b c 30 p.a p.b' p.c' p.pos hf (by omega) _ _ _ s (by rw [hl,hw 1 (by omega)]) hs
  | 2,_,p =>
   rw [p.put,p.other 0 (by omega) (by omega),p.other 1 (by omega) (by omega)]
   exact put32 (layD 1) (qBs 1) i hi b c 30 p.a p.b' p.c' p.pos hf (by omega) _ _ _ s (by rw [hl,hw 2 (by omega)]) hs
def FmtW (f:Int) (w:Nat):Prop:=(f=2∧w=36)∨(f=3∧w=44)
theorem qBx (f:Int) (w:Nat) (hfw:FmtW f w) (F:Nat→List UInt8) (i:Nat) (hi:i < 15) (s:List UInt8) (hs:s.length≤100000):Spec Tryz.prog 124 [.ptr 0 0,.d (.int .i64 (i:Int)),.d (.str s)] (H2 f w F) (fun r h'=>r=.tup []∧h'=H2 f w (updF F i s)):=by
 have hl:∀ k,(lineF (segsZ f k) F).length=widF (segsZ f k):=fun k=>qAx F _
 have hw:∀ k,k < 2→widF (segsZ f k)=w:=by rcases hfw with ⟨rfl,rfl⟩ | ⟨rfl,rfl⟩ <;> decide
 have hf3:1≤f∧f≤3:=by rcases hfw with ⟨rfl,rfl⟩ | ⟨rfl,rfl⟩ <;> omega
 have hn:layN f=2:=by rcases hfw with ⟨rfl,rfl⟩ | ⟨rfl,rfl⟩ <;> rfl
 have hw1:w≤1000:=by rcases hfw with ⟨rfl,rfl⟩ | ⟨rfl,rfl⟩ <;> omega
 rcases place_of hf3 hi with ⟨h0,ho⟩ | ⟨k,b,c,p⟩
 ·unfold H2
  rw [ho 0 (by omega),ho 1 (by omega)]
  exact putN2 (layD f) (qBs f) i hi w h0 _ _ s
 ·have hk:k < 2:=by have:=p.lt;rw [hn] at this;omega
  have hf:=p.fit
  rw [hw k hk] at hf
  unfold H2
  match k,hk,p with
  | 0,_,p =>
   rw [p.put,p.other 1 (by omega) (by omega)]
   exact put20 (layD f) (qBs f) i hi b c w p.a p.b' p.c' p.pos hf hw1 _ _ s (by rw [hl,hw 0 (by omega)]) hs
  | 1,_,p =>
   rw [p.put,p.other 0 (by omega) (by omega)]
   exact put21 (layD f) (qBs f) i hi b c w p.a p.b' p.c' p.pos hf hw1 _ _ s (by rw [hl,hw 1 (by omega)]) hs
end Tdoc
namespace Tdoc
open Go Go.Proofs
def shB (L:List Int) (n:Nat):List AV:=intsA L++[.bm 3 n]
def HC3 (F:Nat→List UInt8):List AObj:=[.row (shB (layD 1) 3),.buf 1 3 [.rx 4 0 30,.rx 5 0 30,.rx 6 0 30],.row (byteAV (lineF (segsZ 1 0) F)),.row (byteAV (lineF (segsZ 1 1) F)),.row (byteAV (lineF (segsZ 1 2) F))]
def HC2 (f:Int) (w:Nat) (F:Nat→List UInt8):List AObj:=[.row (shB (layD f) 2),.buf 1 2 [.rx 4 0 w,.rx 5 0 w],.row (byteAV (lineF (segsZ f 0) F)),.row (byteAV (lineF (segsZ f 1) F))]
theorem renL_app (f:Nat→Nat):∀ (a b:List AV),renL f (a++b)=renL f a++renL f b
 | [],b=>rfl
 | x::a,b=>by simp [renL,renL_app f a b]
theorem ren_shO (f:Nat→Nat) (L:List Int) (n:Nat) (hf:f 1=3):renL f (shO L n)=shB L n:=by
 unfold shO shB
 rw [renL_app,renL_low f (intsA L) (lowL_of fun c hc=>by unfold intsA at hc;obtain ⟨n,_,rfl⟩:=List.mem_map.1 hc;rfl)]
 simp [renL,ren,hf]
theorem ren_bytes (f:Nat→Nat) (s:List UInt8):renL f (byteAV s)=byteAV s:=renL_low f _ (qBr 0 s)
theorem ren_H3 (F:Nat→List UInt8):(H3 F).map (renO (fsf [2,3,4,5,6]))=HC3 F:=by
 simp only [H3,HC3,List.map_cons,List.map_nil,renO,ren_bytes,ren_shO _ _ _ (show fsf [2,3,4,5,6] 1=3 from rfl)]
 rfl
theorem ren_H2 (f:Int) (w:Nat) (F:Nat→List UInt8):(H2 f w F).map (renO (fsf [2,3,4,5]))=HC2 f w F:=by
 simp only [H2,HC2,List.map_cons,List.map_nil,renO,ren_bytes,ren_shO _ _ _ (show fsf [2,3,4,5] 1=3 from rfl)]
 rfl
theorem low_H3 (F:Nat→List UInt8):lowH 5 (H3 F)=true:=by simp only [H3,lowH,lowO,low_shO 5 _ 3 (by omega),qBr];rfl
theorem low_H2 (f:Int) (w:Nat) (F:Nat→List UInt8):lowH 4 (H2 f w F)=true:=by simp only [H2,lowH,lowO,low_shO 4 _ 2 (by omega),qBr];rfl
theorem call3 {E:Env} {o:Oper} {ρ:Operand→AV} {H H':List AObj} {f:Operand} {oas:List Operand} {ats:Array TypeId} {g:FuncId} {args:List AV} {F F':Nat→List UInt8} {r0:AV} (ho:o.op=.call ⟨.value f,oas.toArray,ats⟩) (hf:ρ f=.fn (.func g) [] [])
  (S:Spec Tryz.prog g args (H3 F) (fun r h'=>r=r0∧h'=H3 F')) (hobj:[2,3,4,5,6].map (fun j=>H[j]?)=(HC3 F).map some) (hargs:oas.map ρ=renL (fsf [2,3,4,5,6]) args) (hla:lowL 5 args=true) (hr:ren (fsf [2,3,4,5,6]) r0=r0)
  (hH:updH H [2,3,4,5,6] (HC3 F')=H'):OpS Tryz.prog E o ρ H r0 H' :=
 callS ho hf S [2,3,4,5,6] (by decide) (by rw [hobj,← ren_H3,List.map_map];rfl) (low_H3 F) (by simpa using hargs) hla hr (by rw [ren_H3];exact hH)
theorem call2 {E:Env} {o:Oper} {ρ:Operand→AV} {H H':List AObj} {f:Operand} {oas:List Operand} {ats:Array TypeId} {g:FuncId} {args:List AV} {F F':Nat→List UInt8} {r0:AV} {x:Int} {w:Nat} (ho:o.op=.call ⟨.value f,oas.toArray,ats⟩) (hf:ρ f=.fn (.func g) [] [])
  (S:Spec Tryz.prog g args (H2 x w F) (fun r h'=>r=r0∧h'=H2 x w F')) (hobj:[2,3,4,5].map (fun j=>H[j]?)=(HC2 x w F).map some) (hargs:oas.map ρ=renL (fsf [2,3,4,5]) args) (hla:lowL 4 args=true) (hr:ren (fsf [2,3,4,5]) r0=r0)
  (hH:updH H [2,3,4,5] (HC2 x w F')=H'):OpS Tryz.prog E o ρ H r0 H' :=
 callS ho hf S [2,3,4,5] (by decide) (by rw [hobj,← ren_H2,List.map_map];rfl) (low_H2 x w F) (by simpa using hargs) hla hr (by rw [ren_H2];exact hH)
theorem get3_spec (F:Nat→List UInt8) (i:Nat) (hi:i=3∨i=11):Spec Tryz.prog 125 [.ptr 0 0,.d (.int .i64 (i:Int))] (H3 F) (fun r h'=>r=.d (.str (fitW (if i=3 then 9 else 15) (F i)))∧h'=H3 F):=by
 have hl:(lineF (segsZ 1 0) F).length=30:=qAx F _
 unfold H3
 rcases hi with rfl | rfl
 ·have e:((lineF (segsZ 1 0) F).drop 5).take 9=fitW 9 (F 3):=lineF_get (pre:=[(0,2),(1,3)]) (post:=[(4,1),(11,15)]) F
  rw [if_pos rfl,← e]
  exact get3 (layD 1) (qBs 1) 3 (by omega) 5 9 30 rfl rfl rfl (by omega) (by omega) (by omega) _ _ _ hl
 ·have e:((lineF (segsZ 1 0) F).drop 15).take 15=fitW 15 (F 11):=lineF_get (pre:=[(0,2),(1,3),(3,9),(4,1)]) (post:=[]) F
  rw [if_neg (by omega),← e]
  exact get3 (layD 1) (qBs 1) 11 (by omega) 15 15 30 rfl rfl rfl (by omega) (by omega) (by omega) _ _ _ hl
theorem get2_spec (f:Int) (w:Nat) (hfw:FmtW f w) (F:Nat→List UInt8) (i:Nat) (hi:i=3∨i=11):Spec Tryz.prog 125 [.ptr 0 0,.d (.int .i64 (i:Int))] (H2 f w F) (fun r h'=>r=.d (.str (fitW (if i=3 then 9 else w-(if f=2 then 29 else 30)) (F i)))∧h'=H2 f w F):=by
 unfold H2
 rcases hfw with ⟨rfl,rfl⟩ | ⟨rfl,rfl⟩
 ·have hl:(lineF (segsZ 2 1) F).length=36:=qAx F _
  rcases hi with rfl | rfl
  ·have e:((lineF (segsZ 2 1) F).drop 0).take 9=fitW 9 (F 3):=lineF_get (pre:=[]) (post:=[(4,1),(5,3),(6,6),(7,1),(8,1),(9,6),(10,1),(11,7),(14,1)]) F
   rw [if_pos rfl,← e]
   exact get2 (layD 2) (qBs 2) 3 (by omega) 0 9 36 rfl rfl rfl (by omega) (by omega) (by omega) _ _ hl
  ·have e:((lineF (segsZ 2 1) F).drop 28).take 7=fitW 7 (F 11):=lineF_get (pre:=[(3,9),(4,1),(5,3),(6,6),(7,1),(8,1),(9,6),(10,1)]) (post:=[(14,1)]) F
   rw [if_neg (by omega),show 36-(if (2:Int)=2 then 29 else 30)=7 from rfl,← e]
   exact get2 (layD 2) (qBs 2) 11 (by omega) 28 7 36 rfl rfl rfl (by omega) (by omega) (by omega) _ _ hl
 ·have hl:(lineF (segsZ 3 1) F).length=44:=qAx F _
  rcases hi with rfl | rfl
  ·have e:((lineF (segsZ 3 1) F).drop 0).take 9=fitW 9 (F 3):=lineF_get (pre:=[]) (post:=[(4,1),(5,3),(6,6),(7,1),(8,1),(9,6),(10,1),(11,14),(12,1),(14,1)]) F
   rw [if_pos rfl,← e]
   exact get2 (layD 3) (qBs 3) 3 (by omega) 0 9 44 rfl rfl rfl (by omega) (by omega) (by omega) _ _ hl
  ·have e:((lineF (segsZ 3 1) F).drop 28).take 14=fitW 14 (F 11):=lineF_get (pre:=[(3,9),(4,1),(5,3),(6,6),(7,1),(8,1),(9,6),(10,1)]) (post:=[(12,1),(14,1)]) F
   rw [if_neg (by omega),show 44-(if (3:Int)=2 then 29 else 30)=14 from rfl,← e]
   exact get2 (layD 3) (qBs 3) 11 (by omega) 28 14 44 rfl rfl rfl (by omega) (by omega) (by omega) _ _ hl
theorem comp3_spec (F:Nat→List UInt8):Spec Tryz.prog 126 [.ptr 0 0] (H3 F) (fun r h'=>r=.d (.str (compG [lineF (segsZ 1 0) F,lineF (segsZ 1 1) F,lineF (segsZ 1 2) F]))∧h'=H3 F) :=
 comp3 (layD 1) (qBs 1) _ _ _ (qAx F _) (qAx F _)
theorem comp2_spec (f:Int) (w:Nat) (hfw:FmtW f w) (F:Nat→List UInt8):Spec Tryz.prog 126 [.ptr 0 0] (H2 f w F) (fun r h'=>r=.d (.str (compG [lineF (segsZ f 0) F,lineF (segsZ f 1) F]))∧h'=H2 f w F):=by
 refine comp2 (layD f) (qBs f) w ?_ _ _ ?_
 ·rcases hfw with ⟨rfl,rfl⟩ | ⟨rfl,rfl⟩ <;> simp
 ·rw [qAx];rcases hfw with ⟨rfl,rfl⟩ | ⟨rfl,rfl⟩ <;> rfl
end Tdoc
namespace Tdoc
open Go Go.Proofs
def dgS (s:List UInt8):List UInt8:=(digitF s).1
theorem dgS_one {s:List UInt8} (h:validS s=true):(dgS s).length=1:=digit_one h
theorem dgS_valid {s:List UInt8} (h:validS s=true):validS (dgS s)=true:=by
 have hr:=digSum_range 0 s h
 unfold dgS digitF digitS
 rw [if_pos h]
 have hm:0≤digSum 0 s % 10∧digSum 0 s % 10 < 10:=⟨Int.emod_nonneg _ (by omega),Int.emod_lt_of_pos _ (by omega)⟩
 generalize digSum 0 s % 10=d at hm
 have:d=0∨d=1∨d=2∨d=3∨d=4∨d=5∨d=6∨d=7∨d=8∨d=9:=by omega
 rcases this with rfl | rfl | rfl | rfl | rfl | rfl | rfl | rfl | rfl | rfl <;> rfl
theorem fit_dg {s:List UInt8} (h:validS s=true):fitW 1 (dgS s)=dgS s:=fitW_eq (dgS_one h)
theorem take_pre {a b:List UInt8} {n:Nat} (h:a.length=n):(a++b).take n=a:=List.take_left' h
theorem drop_pre {a b:List UInt8} {n:Nat} (h:a.length=n):(a++b).drop n=b:=List.drop_left' h
theorem cutL_mid {a b c:List UInt8} {i j:Int} (h1:(a.length:Int)=i) (h2:i+(b.length:Int)=j):cutL (a++(b++c)) i j=b:=by
 unfold cutL
 subst h1;subst h2
 rw [Int.toNat_natCast,drop_pre rfl,take_pre (by omega)]
theorem cutS_mid {a b c:List UInt8} {i j:Nat} (h1:a.length=i) (h2:i+b.length=j):cutS (a++(b++c)) i j=b:=by
 rw [cutS_L,cutL_mid (by omega) (by omega)]
structure Laid (z:Zon) (G:Nat→List UInt8) (w:Nat):Prop where
 kind:fitW 2 (G 0)=wideS z.kind 2
 state:fitW 3 (G 1)=wideS z.state 3
 nat:fitW 3 (G 5)=wideS z.nat 3
 bir:fitW 6 (G 6)++fitW 1 (G 7)=checkedS z.bir
 sex:fitW 1 (G 8)=z.sex
 exp:fitW 6 (G 9)++fitW 1 (G 10)=checkedS z.exp
 num:fitW 9 (G 3)++fitW 1 (G 4)=(numberS z.num).1
 opt:fitW w (G 11)=wideS ((numberS z.num).2++z.opt) w
theorem laid_of {z:Zon} (ok:ZOk z) {G:Nat→List UInt8} {w:Nat} (hw:(z.opt.length:Int)+(if z.num.length≤9 then 0 else z.num.length-9+2)≤w) (h0:G 0=z.kind) (h1:G 1=z.state) (h5:G 5=z.nat) (h6:G 6=z.bir) (h7:G 7=dgS z.bir) (h8:G 8=z.sex) (h9:G 9=z.exp) (h10:G 10=dgS z.exp)
  (h3:G 3=if z.num.length > 9 then z.num.take 9 else z.num) (h4:G 4=if z.num.length > 9 then [] else dgS (fitW 9 z.num)) (h11:G 11=if z.num.length > 9 then z.num.drop 9++dgS z.num++[60]++z.opt else z.opt):Laid z G w:=by
 have n2:=number_len ok.num.2.2 ok.num.1
 refine ⟨by rw [h0,fitW_le ok.kind],by rw [h1,fitW_le ok.state],by rw [h5,fitW_le ok.nat],by rw [h6,h7,fitW_eq ok.bir.1,fit_dg ok.bir.2];rfl,by rw [h8,fitW_eq ok.sex],by rw [h9,h10,fitW_eq ok.exp.1,fit_dg ok.exp.2];rfl,?_,?_⟩
 ·rw [h3,h4]
  unfold numberS
  by_cases hl:z.num.length≤9
  ·rw [if_neg (by omega),if_neg (by omega),if_pos hl,fitW_le hl,fit_dg (qCo 9 ok.num.2.2)];rfl
  ·rw [if_pos (by omega),if_pos (by omega),if_neg hl,fitW_eq (by simp;omega)];rfl
 ·rw [h11]
  have hl2:=n2.2
  by_cases hl:z.num.length≤9
  ·rw [if_pos hl] at hw
   unfold numberS
   rw [if_neg (by omega),if_pos hl,fitW_le (by omega)];rfl
  ·rw [if_neg hl] at hw hl2
   have e:z.num.drop 9++dgS z.num++[60]++z.opt=(numberS z.num).2++z.opt:=by unfold numberS;rw [if_neg hl];rfl
   rw [if_pos (by omega),e,fitW_le (by rw [List.length_append,hl2];omega)]
theorem numberS_valid {n:List UInt8} (h:validS n=true):validS (numberS n).1=true∧validS (numberS n).2=true:=by
 unfold numberS
 split
 ·refine ⟨?_,rfl⟩
  show validS (wideS n 9++dgS (wideS n 9))=true
  rw [qBj,qCo 9 h,dgS_valid (qCo 9 h)];rfl
 ·refine ⟨?_,?_⟩
  ·show validS (n.take 9++[60])=true
   rw [qBj,validS_tk 9 h];rfl
  ·show validS (n.drop 9++dgS n++[60])=true
   rw [qBj,qBj,validS_drop 9 h,dgS_valid h];rfl
theorem checkedS_valid {s:List UInt8} (h:validS s=true):validS (checkedS s)=true:=by
 show validS (s++dgS s)=true
 rw [qBj,h,dgS_valid h];rfl
theorem lines_card {z:Zon} (ok:ZOk z) (hf:z.fmt=1) {G:Nat→List UInt8} (h:Laid z G 15) (h2:G 2=(namesF z.sur z.giv 30).1) (h2l:(namesF z.sur z.giv 30).1.length=30) (h13:G 13=z.sec) (s:List UInt8)
  (hs:s=compG [lineF (segsZ 1 0) G,lineF (segsZ 1 1) G,lineF (segsZ 1 2) G]):[lineF (segsZ 1 0) (updF G 14 (dgS s)),lineF (segsZ 1 1) (updF G 14 (dgS s)),lineF (segsZ 1 2) (updF G 14 (dgS s))]=buildZ z:=by
 have hN:=number_len ok.num.2.2 ok.num.1
 have hnv:=numberS_valid ok.num.2.2
 have w15:validS (wideS ((numberS z.num).2++z.opt) 15)=true:=qCo 15 (by rw [qBj,hnv.2,ok.opt.2];rfl)
 have hw11:=qCo 11 ok.sec.2
 have hbl:=qDl ok.bir.2
 have hel:=qDl ok.exp.2
 rw [ok.bir.1] at hbl
 rw [ok.exp.1] at hel
 have hsl:=ok.sex
 have hbv:=checkedS_valid ok.bir.2
 have hev:=checkedS_valid ok.exp.2
 have e15l:(wideS ((numberS z.num).2++z.opt) 15).length=15:=by rw [← h.opt,qBb]
 have e11:fitW 11 (G 13)=wideS z.sec 11:=by rw [h13,fitW_le ok.sec.1]
 have e11l:(wideS z.sec 11).length=11:=by rw [← e11,qBb]
 have ekl:(wideS z.kind 2).length=2:=by rw [← h.kind,qBb]
 have esl:(wideS z.state 3).length=3:=by rw [← h.state,qBb]
 have enl:(wideS z.nat 3).length=3:=by rw [← h.nat,qBb]
 have eb:buildZ z=(let a:=wideS z.kind 2++wideS z.state 3++(numberS z.num).1++wideS ((numberS z.num).2++z.opt) 15;let b:=checkedS z.bir++z.sex++checkedS z.exp++wideS z.nat 3++wideS z.sec 11;[a,b++(digitF (cutS a 5 30++cutS b 0 7++cutS b 8 15++cutS b 18 29)).1,(namesF z.sur z.giv 30).1]):=by
  unfold buildZ nameW;rw [if_pos hf,if_pos hf]
 have l0:∀ F:Nat→List UInt8,lineF (segsZ 1 0) F=fitW 2 (F 0)++(fitW 3 (F 1)++(fitW 9 (F 3)++(fitW 1 (F 4)++(fitW 15 (F 11)++[])))):=fun F=>rfl
 have l1:∀ F:Nat→List UInt8,lineF (segsZ 1 1) F=fitW 6 (F 6)++(fitW 1 (F 7)++(fitW 1 (F 8)++(fitW 6 (F 9)++(fitW 1 (F 10)++(fitW 3 (F 5)++(fitW 11 (F 13)++(fitW 1 (F 14)++[]))))))):=fun F=>rfl
 have l2:∀ F:Nat→List UInt8,lineF (segsZ 1 2) F=fitW 30 (F 2)++[]:=fun F=>rfl
 have e0:lineF (segsZ 1 0) G=wideS z.kind 2++(wideS z.state 3++((numberS z.num).1++wideS ((numberS z.num).2++z.opt) 15)):=by
  rw [l0,← h.kind,← h.state,← h.num,← h.opt];simp
 have e1:∀ x,lineF (segsZ 1 1) (updF G 14 x)=checkedS z.bir++(z.sex++(checkedS z.exp++(wideS z.nat 3++(wideS z.sec 11++fitW 1 x)))):=fun x=>by
  rw [l1,← h.bir,← h.exp,← h.nat,← e11]
  show fitW 6 (G 6)++(fitW 1 (G 7)++(fitW 1 (G 8)++(fitW 6 (G 9)++(fitW 1 (G 10)++(fitW 3 (G 5)++(fitW 11 (G 13)++(fitW 1 x++[])))))))=_
  rw [h.sex];simp
 have e1':lineF (segsZ 1 1) G=checkedS z.bir++(z.sex++(checkedS z.exp++(wideS z.nat 3++(wideS z.sec 11++fitW 1 (G 14))))):=by
  have:updF G 14 (G 14)=G:=by funext j;unfold updF;split <;> simp_all
  rw [← this,e1,this]
 have hcomp:s=(numberS z.num).1++wideS ((numberS z.num).2++z.opt) 15++checkedS z.bir++checkedS z.exp++wideS z.sec 11:=by
  rw [hs,e0,e1']
  unfold compG
  simp only
  rw [← List.append_assoc (wideS z.kind 2),drop_pre (by rw [List.length_append,ekl,esl]),take_pre hbl]
  rw [← List.append_assoc (checkedS z.bir) z.sex,cutL_mid (i:=8) (j:=15) (by rw [List.length_append,hbl,hsl];rfl) (by rw [hel];rfl)]
  rw [← List.append_assoc _ (checkedS z.exp),← List.append_assoc _ (wideS z.nat 3),cutL_mid (i:=18) (j:=29) (by simp only [List.length_append,hbl,hsl,hel,enl];rfl) (by rw [e11l];rfl)]
 have hv:validS s=true:=by rw [hcomp];simp only [qBj,hnv.1,w15,hbv,hev,hw11,Bool.and_self]
 rw [eb]
 simp only
 have c1:cutS (wideS z.kind 2++wideS z.state 3++(numberS z.num).1++wideS ((numberS z.num).2++z.opt) 15) 5 30=(numberS z.num).1++wideS ((numberS z.num).2++z.opt) 15:=by
  rw [List.append_assoc]
  have:=cutS_mid (a:=wideS z.kind 2++wideS z.state 3) (b:=(numberS z.num).1++wideS ((numberS z.num).2++z.opt) 15) (c:=[]) (i:=5) (j:=30) (by rw [List.length_append,ekl,esl]) (by rw [List.length_append,hN.1,e15l])
  rwa [List.append_nil] at this
 have c2:∀ t:List UInt8,t=checkedS z.bir++z.sex++checkedS z.exp++wideS z.nat 3++wideS z.sec 11→cutS t 0 7=checkedS z.bir∧cutS t 8 15=checkedS z.exp∧cutS t 18 29=wideS z.sec 11:=fun t ht=>by
  refine ⟨?_,?_,?_⟩
  ·have:=cutS_mid (a:=[]) (b:=checkedS z.bir) (c:=z.sex++(checkedS z.exp++(wideS z.nat 3++wideS z.sec 11))) (i:=0) (j:=7) rfl (by omega)
   rw [ht];simpa using this
  ·have:=cutS_mid (a:=checkedS z.bir++z.sex) (b:=checkedS z.exp) (c:=wideS z.nat 3++wideS z.sec 11) (i:=8) (j:=15) (by rw [List.length_append,hbl,hsl]) (by rw [hel])
   rw [ht];simpa using this
  ·have:=cutS_mid (a:=checkedS z.bir++z.sex++checkedS z.exp++wideS z.nat 3) (b:=wideS z.sec 11) (c:=[]) (i:=18) (j:=29) (by simp only [List.length_append,hbl,hsl,hel,enl]) (by rw [e11l])
   rw [ht];simpa using this
 obtain ⟨d1,d2,d3⟩:=c2 _ rfl
 rw [c1,d1,d2,d3]
 have hd:(digitF ((numberS z.num).1++wideS ((numberS z.num).2++z.opt) 15++checkedS z.bir++checkedS z.exp++wideS z.sec 11)).1=dgS s:=by rw [hcomp];rfl
 rw [hd]
 have f0:lineF (segsZ 1 0) (updF G 14 (dgS s))=lineF (segsZ 1 0) G:=lineF_free rfl _ _
 have f2:lineF (segsZ 1 2) (updF G 14 (dgS s))=lineF (segsZ 1 2) G:=lineF_free rfl _ _
 rw [f0,f2,e0,e1,fit_dg hv,l2,h2,fitW_eq h2l]
 simp
end Tdoc
namespace Tdoc
open Go Go.Proofs
theorem two_core {z:Zon} (ok:ZOk z) {ln:List UInt8→List UInt8} {l0 T s y:List UInt8} {m:Nat} (hl:∀ x,ln x=(numberS z.num).1++(wideS z.nat 3++(checkedS z.bir++(z.sex++(checkedS z.exp++(T++fitW 1 x)))))) (hT:validS T=true) (hm:28+T.length=m)
  (hs:s=compG [l0,ln y]):ln (dgS s)=((numberS z.num).1++wideS z.nat 3++checkedS z.bir++z.sex++checkedS z.exp++T)++(digitF (cutS ((numberS z.num).1++wideS z.nat 3++checkedS z.bir++z.sex++checkedS z.exp++T) 0 10++cutS ((numberS z.num).1++wideS z.nat 3++checkedS z.bir++z.sex++checkedS z.exp++T) 13 20++cutS ((numberS z.num).1++wideS z.nat 3++checkedS z.bir++z.sex++checkedS z.exp++T) 21 m)).1:=by
 have hN:=number_len ok.num.2.2 ok.num.1
 have hnv:=numberS_valid ok.num.2.2
 have hbl:=qDl ok.bir.2
 have hel:=qDl ok.exp.2
 rw [ok.bir.1] at hbl
 rw [ok.exp.1] at hel
 have hsl:=ok.sex
 have hbv:=checkedS_valid ok.bir.2
 have hev:=checkedS_valid ok.exp.2
 have enl:(wideS z.nat 3).length=3:=by rw [qAt];have:=ok.nat;omega
 have hcomp:s=(numberS z.num).1++checkedS z.bir++(checkedS z.exp++T):=by
  rw [hs]
  unfold compG
  simp only
  have ht:((ln y).length:Int)-1=(m:Int):=by rw [hl];simp only [List.length_append,hN.1,enl,hbl,hsl,hel,qBb];omega
  rw [ht,hl,take_pre hN.1]
  rw [← List.append_assoc (numberS z.num).1,cutL_mid (i:=13) (j:=20) (by rw [List.length_append,hN.1,enl];rfl) (by rw [hbl];rfl)]
  rw [← List.append_assoc _ (checkedS z.bir),← List.append_assoc _ z.sex,← List.append_assoc (checkedS z.exp) T,cutL_mid (i:=21) (j:=(m:Int)) (by simp only [List.length_append,hN.1,enl,hbl,hsl];rfl) (by rw [List.length_append,hel];omega)]
 have hv:validS s=true:=by rw [hcomp];simp only [qBj,hnv.1,hT,hbv,hev,Bool.and_self]
 have c1:∀ t:List UInt8,t=(numberS z.num).1++wideS z.nat 3++checkedS z.bir++z.sex++checkedS z.exp++T→cutS t 0 10=(numberS z.num).1∧cutS t 13 20=checkedS z.bir∧cutS t 21 m=checkedS z.exp++T:=fun t ht=>by
  refine ⟨?_,?_,?_⟩
  ·have:=cutS_mid (a:=[]) (b:=(numberS z.num).1) (c:=wideS z.nat 3++(checkedS z.bir++(z.sex++(checkedS z.exp++T)))) (i:=0) (j:=10) rfl (by omega)
   rw [ht];simpa using this
  ·have:=cutS_mid (a:=(numberS z.num).1++wideS z.nat 3) (b:=checkedS z.bir) (c:=z.sex++(checkedS z.exp++T)) (i:=13) (j:=20) (by rw [List.length_append,hN.1,enl]) (by omega)
   rw [ht];simpa using this
  ·have:=cutS_mid (a:=(numberS z.num).1++wideS z.nat 3++checkedS z.bir++z.sex) (b:=checkedS z.exp++T) (c:=[]) (i:=21) (j:=m) (by simp only [List.length_append,hN.1,enl,hbl,hsl]) (by rw [List.length_append];omega)
   rw [ht];simpa using this
 obtain ⟨d1,d2,d3⟩:=c1 _ rfl
 rw [d1,d2,d3]
 have hd:(digitF ((numberS z.num).1++checkedS z.bir++(checkedS z.exp++T))).1=dgS s:=by rw [hcomp];rfl
 rw [hd,hl,fit_dg hv]
 simp
theorem upd_self (G:Nat→List UInt8) (i:Nat):updF G i (G i)=G:=by funext j;unfold updF;split <;> simp_all
theorem lines_small {z:Zon} (ok:ZOk z) (hf:z.fmt=2) {G:Nat→List UInt8} (h:Laid z G 7) (h2:G 2=(namesF z.sur z.giv 31).1) (h2l:(namesF z.sur z.giv 31).1.length=31) (s:List UInt8)
  (hs:s=compG [lineF (segsZ 2 0) G,lineF (segsZ 2 1) G]):[lineF (segsZ 2 0) (updF G 14 (dgS s)),lineF (segsZ 2 1) (updF G 14 (dgS s))]=buildZ z:=by
 have l0:lineF (segsZ 2 0) (updF G 14 (dgS s))=fitW 2 (G 0)++(fitW 3 (G 1)++(fitW 31 (G 2)++[])):=rfl
 have l1:∀ F:Nat→List UInt8,lineF (segsZ 2 1) F=fitW 9 (F 3)++(fitW 1 (F 4)++(fitW 3 (F 5)++(fitW 6 (F 6)++(fitW 1 (F 7)++(fitW 1 (F 8)++(fitW 6 (F 9)++(fitW 1 (F 10)++(fitW 7 (F 11)++(fitW 1 (F 14)++[]))))))))):=fun F=>rfl
 have e1:∀ x,lineF (segsZ 2 1) (updF G 14 x)=(numberS z.num).1++(wideS z.nat 3++(checkedS z.bir++(z.sex++(checkedS z.exp++(wideS ((numberS z.num).2++z.opt) 7++fitW 1 x))))):=fun x=>by
  rw [l1,← h.num,← h.nat,← h.bir,← h.exp,← h.opt]
  show fitW 9 (G 3)++(fitW 1 (G 4)++(fitW 3 (G 5)++(fitW 6 (G 6)++(fitW 1 (G 7)++(fitW 1 (G 8)++(fitW 6 (G 9)++(fitW 1 (G 10)++(fitW 7 (G 11)++(fitW 1 x++[])))))))))=_
  rw [h.sex];simp
 have hw:validS (wideS ((numberS z.num).2++z.opt) 7)=true:=qCo 7 (by rw [qBj,(numberS_valid ok.num.2.2).2,ok.opt.2];rfl)
 have hl7:(wideS ((numberS z.num).2++z.opt) 7).length=7:=by rw [← h.opt,qBb]
 have:=two_core ok (l0:=lineF (segsZ 2 0) G) (y:=G 14) (s:=s) (m:=35) e1 hw (by omega) (by rw [upd_self];exact hs)
 have eb:buildZ z=(let b:=(numberS z.num).1++wideS z.nat 3++checkedS z.bir++z.sex++checkedS z.exp++wideS ((numberS z.num).2++z.opt) 7;[wideS z.kind 2++wideS z.state 3++(namesF z.sur z.giv 31).1,b++(digitF (cutS b 0 10++cutS b 13 20++cutS b 21 35)).1]):=by
  unfold buildZ nameW;rw [if_neg (by omega),if_pos hf,if_neg (by omega),if_pos hf]
 rw [eb,this,l0,h.kind,h.state,h2,fitW_eq h2l]
 simp
theorem lines_book {z:Zon} (ok:ZOk z) (hf:z.fmt=3) {G:Nat→List UInt8} (h:Laid z G 14) (h2:G 2=(namesF z.sur z.giv 39).1) (h2l:(namesF z.sur z.giv 39).1.length=39) (h12:G 12=if z.opt=[] then [] else dgS (fitW 14 z.opt)) (s:List UInt8)
  (hs:s=compG [lineF (segsZ 3 0) G,lineF (segsZ 3 1) G]):[lineF (segsZ 3 0) (updF G 14 (dgS s)),lineF (segsZ 3 1) (updF G 14 (dgS s))]=buildZ z:=by
 have l0:lineF (segsZ 3 0) (updF G 14 (dgS s))=fitW 2 (G 0)++(fitW 3 (G 1)++(fitW 39 (G 2)++[])):=rfl
 have l1:∀ F:Nat→List UInt8,lineF (segsZ 3 1) F=fitW 9 (F 3)++(fitW 1 (F 4)++(fitW 3 (F 5)++(fitW 6 (F 6)++(fitW 1 (F 7)++(fitW 1 (F 8)++(fitW 6 (F 9)++(fitW 1 (F 10)++(fitW 14 (F 11)++(fitW 1 (F 12)++(fitW 1 (F 14)++[])))))))))):=fun F=>rfl
 have hn9:z.num.length≤9:=by have:=ok.num.2.1;unfold mostN at this;rw [if_neg (by omega),if_neg (by omega)] at this;omega
 have hn2:(numberS z.num).2=[]:=by unfold numberS;rw [if_pos hn9]
 have ho:=h.opt
 rw [hn2,List.nil_append] at ho
 have hol:(wideS z.opt 14).length=14:=by rw [← ho,qBb]
 have hlo:z.opt.length≤14:=by rw [qAt] at hol;omega
 have hov:=qCo 14 ok.opt.2
 have ed:fitW 1 (G 12)=if z.opt=[] then [60] else (digitF (wideS z.opt 14)).1:=by
  rw [h12]
  split
  ·rfl
  ·rw [fitW_le hlo,fit_dg hov];rfl
 have e1:∀ x,lineF (segsZ 3 1) (updF G 14 x)=(numberS z.num).1++(wideS z.nat 3++(checkedS z.bir++(z.sex++(checkedS z.exp++((wideS z.opt 14++fitW 1 (G 12))++fitW 1 x))))):=fun x=>by
  rw [l1,← h.num,← h.nat,← h.bir,← h.exp,← ho]
  show fitW 9 (G 3)++(fitW 1 (G 4)++(fitW 3 (G 5)++(fitW 6 (G 6)++(fitW 1 (G 7)++(fitW 1 (G 8)++(fitW 6 (G 9)++(fitW 1 (G 10)++(fitW 14 (G 11)++(fitW 1 (G 12)++(fitW 1 x++[]))))))))))=_
  rw [h.sex];simp
 have hv12:validS (fitW 1 (G 12))=true:=by
  rw [ed]
  split
  ·rfl
  ·exact dgS_valid hov
 have:=two_core ok (l0:=lineF (segsZ 3 0) G) (y:=G 14) (s:=s) (m:=43) e1 (by rw [qBj,hov,hv12];rfl) (by rw [List.length_append,hol,qBb]) (by rw [upd_self];exact hs)
 have eb:buildZ z=(let o:=if z.opt=[] then [60] else (digitF (wideS z.opt 14)).1;let b:=(numberS z.num).1++wideS z.nat 3++checkedS z.bir++z.sex++checkedS z.exp++wideS z.opt 14++o;[wideS z.kind 2++wideS z.state 3++(namesF z.sur z.giv 39).1,b++(digitF (cutS b 0 10++cutS b 13 20++cutS b 21 43)).1]):=by
  unfold buildZ nameW;rw [hf];rfl
 rw [eb,this,l0,h.kind,h.state,h2,fitW_eq h2l]
 simp only
 rw [← ed]
 simp
end Tdoc
namespace Tdoc
open Go Go.Proofs
abbrev Ins:=List (Nat×Int×List UInt8)
def mapA (q:Ins):List (Dat×Dat):=q.map fun x=>(Dat.int .i64 x.2.1,Dat.str x.2.2)
def FK (q:Ins) (f:Nat):List UInt8:=match q.find? fun y=>y.2.1 == (f:Int) with
 | some y=>y.2.2
 | none=>[]
theorem key_one {q:Ins} (hok:okIns q=true) {x y:Nat×Int×List UInt8} (hx:x∈q) (hy:y∈q) (h:x.2.1=y.2.1):x=y:=by
 obtain ⟨a,ha⟩:=List.mem_iff_getElem?.1 hx
 obtain ⟨b,hb⟩:=List.mem_iff_getElem?.1 hy
 by_cases hab:a=b
 ·subst hab;rw [ha] at hb;exact Option.some.inj hb
 ·exact absurd h (okIns_spec hok ha hb hab).2
structure MapInv (q:Ins) (es:Array MapEntry) (x:Array Nat×(Nat→List UInt8)):Prop where
 sub:∀ f:Nat,x.2 f≠[]→∃ y∈q,y.2.1=(f:Int)∧y.2.2=x.2 f
 all:∀ e∈es.toList,x.1.contains e.born=true→∃ f:Nat,e.key=.int .i64 (f:Int)∧e.val=.string ⟨(x.2 f).toArray⟩
theorem MapInv.init (q:Ins) (es:Array MapEntry):MapInv q es (#[],fun _=>[]):=⟨fun f h=>absurd rfl h,fun e _ h=>by simp at h⟩
theorem str_inj {a b:List UInt8} (h:(Value.string ⟨a.toArray⟩)=.string ⟨b.toArray⟩):a=b:=by simpa using h
theorem MapInv.step {q:Ins} (hok:okIns q=true) {es:Array MapEntry} {clock:Nat} (hA:MapIs (mapA q) es clock) {seen:Array Nat} {F:Nat→List UInt8} (h:MapInv q es (seen,F)) {e:MapEntry} (he:e∈es.toList) {y:Nat×Int×List UInt8} (hy:y∈q) {i:Nat} (hi:y.2.1=(i:Int))
  (h1:e.key=.int .i64 (i:Int)) (h2:e.val=.string ⟨y.2.2.toArray⟩):MapInv q es (seen.push e.born,updF F i y.2.2):=by
 refine ⟨fun f hf=>?_,fun e' he' hc=>?_⟩
 ·show ∃ z∈q,z.2.1=(f:Int)∧z.2.2=updF F i y.2.2 f
  have hf':updF F i y.2.2 f≠[]:=hf
  unfold updF at hf' ⊢
  split
  ·rename_i hfi;subst hfi;exact ⟨y,hy,hi,rfl⟩
  ·rename_i hfi;rw [if_neg hfi] at hf';exact h.sub f hf'
 ·obtain ⟨p,hp,k1,k2⟩:=hA.fwd e' he'
  obtain ⟨z,hz,rfl⟩:=List.mem_map.1 hp
  simp only [flatV] at k1 k2
  by_cases hzi:z.2.1=(i:Int)
  ·have hzy:=key_one hok hz hy (hzi.trans hi.symm)
   subst hzy
   refine ⟨i,by rw [k1,hzi],?_⟩
   show e'.val=.string ⟨(updF F i z.2.2 i).toArray⟩
   unfold updF
   rw [if_pos rfl,k2]
  ·have hne:e'.born≠e.born:=fun hb=>by
    have hst:=hA.st.2.1
    have:e'=e:=by
     have f1:=find_born e' es.toList hst he'
     have f2:=find_born e es.toList hst he
     rw [hb,f2] at f1
     exact (Option.some.inj f1).symm
    rw [this,h1] at k1
    exact hzi (by simpa using k1.symm)
   have hc':seen.contains e'.born=true:=by
    have hc2:(seen.push e.born).contains e'.born=true:=hc
    rw [contains_push] at hc2
    simp only [Bool.or_eq_true,beq_iff_eq] at hc2
    exact hc2.resolve_right hne
   obtain ⟨f,g1,g2⟩:=h.all e' he' hc'
   refine ⟨f,g1,?_⟩
   show e'.val=.string ⟨(updF F i y.2.2 f).toArray⟩
   unfold updF
   rw [if_neg (fun hfi=>?_)]
   ·exact g2
   ·subst hfi
    rw [g1] at k1
    exact hzi (by simpa using k1.symm)
theorem MapInv.done {q:Ins} (hok:okIns q=true) {es:Array MapEntry} {clock:Nat} (hA:MapIs (mapA q) es clock) {seen:Array Nat} {F:Nat→List UInt8} (h:MapInv q es (seen,F)) (h0:(leftOf es seen).size=0):F=FK q:=by
 have hall:∀ e∈es.toList,seen.contains e.born=true:=fun e he=>by
  cases hc:seen.contains e.born with
  | true=>rfl
  | false =>
   have:e∈leftOf es seen:=Array.mem_filter.2 ⟨Array.mem_toList_iff.1 he,by rw [hc];rfl⟩
   have:=Array.size_pos_of_mem this
   omega
 funext f
 unfold FK
 cases hf:q.find? fun y=>y.2.1 == (f:Int) with
 | some y =>
  have hy:=List.mem_of_find?_eq_some hf
  have hk:y.2.1=(f:Int):=by simpa using List.find?_some hf
  obtain ⟨e,he,k1,k2⟩:=hA.bwd _ (List.mem_map.2 ⟨y,hy,rfl⟩)
  simp only [flatV] at k1 k2
  obtain ⟨g,g1,g2⟩:=h.all e he (hall e he)
  rw [k1,hk] at g1
  have hgf:f=g:=by have h3:(f:Int)=(g:Int):=(by simpa using g1);omega
  subst hgf
  rw [k2] at g2
  exact (str_inj g2).symm
 | none =>
  simp only
  by_cases hF:F f=[]
  ·exact hF
  ·obtain ⟨y,hy,hk,_⟩:=h.sub f hF
   have:=List.find?_eq_none.1 hf y hy
   simp [hk] at this
end Tdoc
namespace Tdoc
open Go Go.Proofs
theorem comp_len3 {a b c:List UInt8} (ha:a.length=widF (segsZ 1 0)) (hb:b.length=widF (segsZ 1 1)):(compG [a,b,c]).length≤1000:=by
 have ha':a.length=30:=ha
 have hb':b.length=30:=hb
 unfold compG cutL
 simp
 omega
theorem comp_len2 {a b:List UInt8} {n:Nat} (hn:n≤44) (hb:b.length=n):(compG [a,b]).length≤1000:=by
 unfold compG cutL
 simp
 omega
theorem hmt:Tryz.prog.underlying 154=some (.map 3 9):=by kernel_rfl
theorem hit:Tryz.prog.underlying 3=some (.int .i64):=by kernel_rfl
theorem namesF_ok {z:Zon} (h:validZ z=0) {w:Int} (hw:1≤w∧w≤64):(namesF z.sur z.giv w).1.length=w.toNat:=by
 unfold validZ at h
 split at h
 ·exact absurd h (by omega)
 rename_i hv
 simp only [not_or,Bool.not_eq_false] at hv
 obtain ⟨_,_,_,_,v1,v2,v3,_⟩:=hv
 unfold namesF
 rw [if_neg (by rw [v1,v3];simp [v2]),if_neg (by omega)]
 simp only
 rw [List.length_take,qAt]
 omega
theorem BuildP_bad (z:Zon) (hz:zLen z) (h0:validZ z≠0):Spec Tryz.prog 65 [zAV z] [] (fun r h'=>r=.tup [.d (.sl 1 []),.d (.int .i64 (validZ z))]∧h'=[]):=by
 have hv:=ZValid_spec z hz
 generalize validZ z=e at hv h0
 obtain ⟨fmt,kind,state,sur,giv,num,nat,bir,sex,exp,opt,sec⟩:=z
 unfold zAV zCells at hv ⊢
 simp only at hv ⊢
 refine qAb hT Tryz.func65 rfl rfl rfl rfl ?_;intro E hE
 refine ww ?_
 refine wwc hv ?_
 refine ww ?_
 refine qAa rfl (fun c1=>?_) (fun c1=>?_)
 ·refine ww ?_
  exact wwr
 ·exact absurd (by simpa using c1) h0
def HLcard (zc:List AV) (i:Nat):List AObj:=match i with
 | 0=>[.row zc,.row (intsA (layD 1)),.row (intsA (layD 1)++[.sl 1 [] .full]),.room,.room,.room,.room,.room,.room,.room,.room,.room]
 | 1=>[.row zc,.row (intsA (layD 1)),.row (intsA (layD 1)++[.bm 3 1]),.buf 1 1 [.rx 4 0 30],.row (byteAV (List.replicate 30 60)),.room,.room,.dead,.room,.room,.room,.room]
 | 2=>[.row zc,.row (intsA (layD 1)),.row (intsA (layD 1)++[.bm 3 2]),.buf 1 2 [.rx 4 0 30,.rx 5 0 30],.row (byteAV (List.replicate 30 60)),.row (byteAV (List.replicate 30 60)),.room,.dead,.dead,.room,.room,.room]
 | _=>[.row zc,.row (intsA (layD 1)),.row (intsA (layD 1)++[.bm 3 3]),.buf 1 3 [.rx 4 0 30,.rx 5 0 30,.rx 6 0 30],.row (byteAV (List.replicate 30 60)),.row (byteAV (List.replicate 30 60)),.row (byteAV (List.replicate 30 60)),.dead,.dead,.dead,.room,.room]
theorem BuildP_card (z:Zon) (hz:zLen z) (h0:validZ z=0) (hf:z.fmt=1):Spec Tryz.prog 65 [zAV z] [] (fun r h'=>r=.tup [.d (.sl 1 (encSs (buildZ z))),.d (.int .i64 0)]∧h'=[]):=by
 have hv:=ZValid_spec z hz
 have hlay:Spec Tryz.prog 120 [.d (.int .i64 1)] [] (fun r h'=>r=.tup [.agg (intsA (layD 1)),.d (.int .i64 3),.d (.int .i64 30)]∧h'=[]):=qCv 1
 have hR:Spec Tryz.prog 121 [.d (.str [60]),.d (.int .i64 30)] [] (fun r h'=>r=.d (.str (List.replicate 30 60))∧h'=[]):=qBz 30 (by omega)
 have hNm:=NamesP_spec z.sur z.giv 30 (by have:=hz.2.2.1;omega) (by have:=hz.2.2.2.1;omega)
 have hNl:=namesF_ok h0 (w:=30) (by omega)
 have hd1:Spec Tryz.prog 123 [.d (.str z.bir)] [] (fun r h'=>r=.d (.str (dgS z.bir))∧h'=[]):=qBw z.bir (by have:=hz.2.2.2.2.2.2.1;omega)
 have hd2:Spec Tryz.prog 123 [.d (.str z.exp)] [] (fun r h'=>r=.d (.str (dgS z.exp))∧h'=[]):=qBw z.exp (by have:=hz.2.2.2.2.2.2.2.2.1;omega)
 rw [h0] at hv
 have ok:=validZ_ok h0
 obtain ⟨fmt,kind,state,sur,giv,num,nat,bir,sex,exp,opt,sec⟩:=z
 unfold zAV zCells at hv ⊢
 simp only at hv hf hNm hNl hd1 hd2 ⊢
 subst hf
 generalize hnm:namesF sur giv 30=nm at hNm hNl
 obtain ⟨name,ne⟩:=nm
 simp only at hNm hNl
 have hkeys:∀ y∈([(3,0,kind),(6,1,state),(8,2,name),(11,5,nat),(14,6,bir),(18,7,dgS bir),(21,8,sex),(24,9,exp),(28,10,dgS exp),(31,13,sec)]:Ins),∃ i:Nat,i < 15∧y.2.1=(i:Int):=fun y hy=>by
  simp only [List.mem_cons,List.not_mem_nil,or_false] at hy
  rcases hy with rfl | rfl | rfl | rfl | rfl | rfl | rfl | rfl | rfl | rfl
  ·exact ⟨0,by omega,rfl⟩
  ·exact ⟨1,by omega,rfl⟩
  ·exact ⟨2,by omega,rfl⟩
  ·exact ⟨5,by omega,rfl⟩
  ·exact ⟨6,by omega,rfl⟩
  ·exact ⟨7,by omega,rfl⟩
  ·exact ⟨8,by omega,rfl⟩
  ·exact ⟨9,by omega,rfl⟩
  ·exact ⟨10,by omega,rfl⟩
  ·exact ⟨13,by omega,rfl⟩
 have hlen:∀ y∈([(3,0,kind),(6,1,state),(8,2,name),(11,5,nat),(14,6,bir),(18,7,dgS bir),(21,8,sex),(24,9,exp),(28,10,dgS exp),(31,13,sec)]:Ins),y.2.2.length≤100000:=fun y hy=>by
  have hb1:=qBc bir
  have hb2:=qBc exp
  obtain ⟨g1,g2,g3,g4,g5,g6,g7,g8,g9,g10,g11⟩:=hz
  simp only at g1 g2 g3 g4 g5 g6 g7 g8 g9 g10 g11
  simp only [List.mem_cons,List.not_mem_nil,or_false] at hy
  rcases hy with rfl | rfl | rfl | rfl | rfl | rfl | rfl | rfl | rfl | rfl <;> simp only [dgS] <;> omega
 have hflat:∀ p,p∈mapA [(3,0,kind),(6,1,state),(8,2,name),(11,5,nat),(14,6,bir),(18,7,dgS bir),(21,8,sex),(24,9,exp),(28,10,dgS exp),(31,13,sec)]→isFlat p.1=true∧isFlat p.2=true:=fun p hp=>by obtain ⟨y,_,rfl⟩:=List.mem_map.1 hp;exact ⟨rfl,rfl⟩
 refine qAb hT Tryz.func65 rfl rfl rfl rfl ?_;intro E hE
 refine ww ?_
 refine wwc hv ?_
 refine ww ?_
 refine qAa rfl (fun c1=>?_) (fun c1=>?_)
 ·exact absurd c1 (by simp)
 refine ww ?_
 refine wwc hlay ?_
 refine ww ?_
 refine qAo ?_
 refine qAo ?_
 refine qAo ?_
 refine qAo ?_
 refine qAo ?_
 refine qAo ?_
 refine qAo ?_
 refine qAo ?_
 refine qAo ?_
 refine qAq (ι:=Nat) (fun i=>[(1,.ptr 0 0),(5,.ptr 1 0),(7,.d (.int .i64 30)),(8,.ptr 2 0),(31,.d (.int .i64 3)),(32,.d (.int .i64 (i:Int)))]) (fun i=>HLcard [.d (.int .i64 1),.d (.str kind),.d (.str state),.d (.str sur),.d (.str giv),.d (.str num),.d (.str nat),.d (.str bir),.d (.str sex),.d (.str exp),.d (.str opt),.d (.str sec)] i) (fun i=>i≤3) (fun i=>3-i) 0 (by omega) ⟨.refl _,.refl _,.refl _,.refl _,.refl _,.refl _,trivial⟩ (HLe.refl _) ?_
 intro i hi
 refine ww ?_
 refine qAa rfl (fun c2=>?_) (fun c2=>?_)
 ·have hi3:i=0∨i=1∨i=2:=by have h3:(i:Int) < 3:=(by simpa using c2);omega
  rcases hi3 with rfl | rfl | rfl
  ·refine wwn ?_
   refine qBg (fun i=>bif Nat.beq i 4 then [2] else bif Nat.beq i 7 then [4] else bif Nat.beq i 8 then [7] else bif Nat.beq i 9 then [3,7] else bif Nat.beq i 12 then [2] else []) (fun i=>bif Nat.beq i 7 then [4] else bif Nat.beq i 8 then [7] else bif Nat.beq i 9 then [3] else bif Nat.beq i 12 then [2] else []) mixed (by kernel_rfl) ?_
   refine wwg ?_
   refine wwdc hR ?_
   refine qAs (v:=.rx 4 0 30) (os:=[.row (byteAV (List.replicate 30 60))]) (fun kk hk1 hk2=>strRx_ok (s:=List.replicate 30 60) hT rfl rfl rfl ((hk2 4 List.mem_cons_self).trans rfl)) rfl ?_
   refine qAs (v:=.row 7 0 1 1) (os:=[.row [.rx 4 0 30]]) (fun kk hk1 hk2=>qBt hT rfl rfl ((hk2 7 List.mem_cons_self).trans rfl)) rfl ?_
   refine qAs (v:=.bm 3 1) (os:=[.buf 1 1 [.rx 4 0 30]]) (fun kk hk1 hk2=>bufAppRow0_ok hT rfl rfl rfl (.inl rfl) (by intro h;cases h) ((hk2 3 List.mem_cons_self).trans rfl) rfl ((hk2 7 (List.mem_cons_of_mem _ List.mem_cons_self)).trans rfl) rfl (by decide)) rfl ?_
   refine wwg ?_
   refine ww ?_
   exact ⟨1,by omega,by omega,⟨.refl _,.refl _,.refl _,.refl _,.refl _,.refl _,trivial⟩,⟨.refl _,.refl _,.refl _,.refl _,.refl _,.refl _,.refl _,trivial,.refl _,.refl _,.refl _,.refl _,trivial⟩⟩
  ·refine wwn ?_
   refine qBg (fun i=>bif Nat.beq i 4 then [2] else bif Nat.beq i 7 then [5] else bif Nat.beq i 8 then [8] else bif Nat.beq i 9 then [3,8] else bif Nat.beq i 12 then [2] else []) (fun i=>bif Nat.beq i 7 then [5] else bif Nat.beq i 8 then [8] else bif Nat.beq i 9 then [3] else bif Nat.beq i 12 then [2] else []) mixed (by kernel_rfl) ?_
   refine wwg ?_
   refine wwdc hR ?_
   refine qAs (v:=.rx 5 0 30) (os:=[.row (byteAV (List.replicate 30 60))]) (fun kk hk1 hk2=>strRx_ok (s:=List.replicate 30 60) hT rfl rfl rfl ((hk2 5 List.mem_cons_self).trans rfl)) rfl ?_
   refine qAs (v:=.row 8 0 1 1) (os:=[.row [.rx 5 0 30]]) (fun kk hk1 hk2=>qBt hT rfl rfl ((hk2 8 List.mem_cons_self).trans rfl)) rfl ?_
   refine qAs (v:=.bm 3 2) (os:=[.buf 1 2 [.rx 4 0 30,.rx 5 0 30]]) (fun kk hk1 hk2=>bufAppRow_ok hT rfl rfl rfl rfl ((hk2 3 List.mem_cons_self).trans rfl) rfl ((hk2 8 (List.mem_cons_of_mem _ List.mem_cons_self)).trans rfl) rfl (by decide)) rfl ?_
   refine wwg ?_
   refine ww ?_
   exact ⟨2,by omega,by omega,⟨.refl _,.refl _,.refl _,.refl _,.refl _,.refl _,trivial⟩,⟨.refl _,.refl _,.refl _,.refl _,.refl _,.refl _,.refl _,trivial,trivial,.refl _,.refl _,.refl _,trivial⟩⟩
  ·refine wwn ?_
   refine qBg (fun i=>bif Nat.beq i 4 then [2] else bif Nat.beq i 7 then [6] else bif Nat.beq i 8 then [9] else bif Nat.beq i 9 then [3,9] else bif Nat.beq i 12 then [2] else []) (fun i=>bif Nat.beq i 7 then [6] else bif Nat.beq i 8 then [9] else bif Nat.beq i 9 then [3] else bif Nat.beq i 12 then [2] else []) mixed (by kernel_rfl) ?_
   refine wwg ?_
   refine wwdc hR ?_
   refine qAs (v:=.rx 6 0 30) (os:=[.row (byteAV (List.replicate 30 60))]) (fun kk hk1 hk2=>strRx_ok (s:=List.replicate 30 60) hT rfl rfl rfl ((hk2 6 List.mem_cons_self).trans rfl)) rfl ?_
   refine qAs (v:=.row 9 0 1 1) (os:=[.row [.rx 6 0 30]]) (fun kk hk1 hk2=>qBt hT rfl rfl ((hk2 9 List.mem_cons_self).trans rfl)) rfl ?_
   refine qAs (v:=.bm 3 3) (os:=[.buf 1 3 [.rx 4 0 30,.rx 5 0 30,.rx 6 0 30]]) (fun kk hk1 hk2=>bufAppRow_ok hT rfl rfl rfl rfl ((hk2 3 List.mem_cons_self).trans rfl) rfl ((hk2 9 (List.mem_cons_of_mem _ List.mem_cons_self)).trans rfl) rfl (by decide)) rfl ?_
   refine wwg ?_
   refine ww ?_
   exact ⟨3,by omega,by omega,⟨.refl _,.refl _,.refl _,.refl _,.refl _,.refl _,trivial⟩,⟨.refl _,.refl _,.refl _,.refl _,.refl _,.refl _,.refl _,trivial,trivial,trivial,.refl _,.refl _,trivial⟩⟩
 have hi':i=3:=by have h3:¬ ((i:Int) < 3):=(by simpa using c2);omega
 subst hi'
 refine ww ?_
 first | refine qAd (qAc (qAh hT rfl rfl rfl rfl (by decide))) rfl ?_ | refine qAp (qAc (qAh hT rfl rfl rfl rfl (by decide))) rfl rfl ?_
 refine ww ?_
 refine wwc hNm ?_
 refine wws ?_
 refine qDm (l:=[(1,.ptr 0 0),(8,.ptr 2 0),(9,.d (.str name))]) (h':=[.row [.d (.int .i64 1),.d (.str kind),.d (.str state),.d (.str sur),.d (.str giv),.d (.str num),.d (.str nat),.d (.str bir),.d (.str sex),.d (.str exp),.d (.str opt),.d (.str sec)],.dead,.row (shB (layD 1) 3),.buf 1 3 [.rx 4 0 30,.rx 5 0 30,.rx 6 0 30],.row (byteAV (lineF (segsZ 1 0) (fun _=>[]))),.row (byteAV (lineF (segsZ 1 1) (fun _=>[]))),.row (byteAV (lineF (segsZ 1 2) (fun _=>[]))),.dead,.dead,.dead,.room,.room]) ⟨.refl _,.refl _,.refl _,trivial⟩ ⟨.refl _,trivial,.refl _,.refl _,ObLe.row rfl,ObLe.row rfl,ObLe.row rfl,trivial,trivial,trivial,.refl _,.refl _,trivial⟩ ?_
 refine qBa (ι:=Unit) (fun _=>[(1,.ptr 0 0),(8,.ptr 2 0)]) (fun _=>[.row [.d (.int .i64 1),.d (.str kind),.d (.str state),.d (.str sur),.d (.str giv),.d (.str num),.d (.str nat),.d (.str bir),.d (.str sex),.d (.str exp),.d (.str opt),.d (.str sec)],.dead,.row (shB (layD 1) 3),.buf 1 3 [.rx 4 0 30,.rx 5 0 30,.rx 6 0 30],.row (byteAV (lineF (segsZ 1 0) (FK [(3,0,kind),(6,1,state),(8,2,name),(11,5,nat),(14,6,bir),(18,7,dgS bir),(21,8,sex),(24,9,exp),(28,10,dgS exp),(31,13,sec)]))),.row (byteAV (lineF (segsZ 1 1) (FK [(3,0,kind),(6,1,state),(8,2,name),(11,5,nat),(14,6,bir),(18,7,dgS bir),(21,8,sex),(24,9,exp),(28,10,dgS exp),(31,13,sec)]))),.row (byteAV (lineF (segsZ 1 2) (FK [(3,0,kind),(6,1,state),(8,2,name),(11,5,nat),(14,6,bir),(18,7,dgS bir),(21,8,sex),(24,9,exp),(28,10,dgS exp),(31,13,sec)]))),.dead,.dead,.dead,.dead,.dead]) (fun _=>True) ?_ ?_
 ·refine qAu ?_
  refine AW_drawM (mapM 0 (insS [(3,0,kind),(6,1,state),(8,2,name),(11,5,nat),(14,6,bir),(18,7,dgS bir),(21,8,sex),(24,9,exp),(28,10,dgS exp),(31,13,sec)])) 10 33 32 (fun _=>[0]) (fun _=>[]) mixed rfl (by kernel_rfl) (by kernel_rfl) rfl ?_
  refine AWm_make hT rfl (by kernel_rfl) (by decide) (qBo rfl) rfl ?_
  refine qAy (by decide) (by decide) (qAj rfl) ?_
  refine wwg ?_
  refine qAy (by decide) (by decide) (qAj rfl) ?_
  refine wwg ?_
  refine qBm hT rfl 0 rfl hmt hit rfl rfl rfl rfl rfl rfl (by kernel_rfl) rfl ?_
  refine qAy (by decide) (by decide) (qAj rfl) ?_
  refine wwg ?_
  refine qAy (by decide) (by decide) (qAj rfl) ?_
  refine wwg ?_
  refine qBm hT rfl 1 rfl hmt hit rfl rfl rfl rfl rfl rfl (by kernel_rfl) rfl ?_
  refine qAy (by decide) (by decide) (qAj rfl) ?_
  refine wwg ?_
  refine qBm hT rfl 2 rfl hmt hit rfl rfl rfl rfl rfl rfl (by kernel_rfl) rfl ?_
  refine qAy (by decide) (by decide) (qAj rfl) ?_
  refine wwg ?_
  refine qAy (by decide) (by decide) (qAj rfl) ?_
  refine wwg ?_
  refine qBm hT rfl 3 rfl hmt hit rfl rfl rfl rfl rfl rfl (by kernel_rfl) rfl ?_
  refine qAy (by decide) (by decide) (qAj rfl) ?_
  refine wwg ?_
  refine qAy (by decide) (by decide) (qAj rfl) ?_
  refine wwg ?_
  refine qBm hT rfl 4 rfl hmt hit rfl rfl rfl rfl rfl rfl (by kernel_rfl) rfl ?_
  refine qAy (by decide) (by decide) (qAj rfl) ?_
  refine wwg ?_
  refine qAy (by decide) (by decide) (qAj rfl) ?_
  refine wwg ?_
  refine qAy (by decide) (by decide) (qAj rfl) ?_
  refine wwdc hd1 ?_
  refine wwg ?_
  refine qBm hT rfl 5 rfl hmt hit rfl rfl rfl rfl rfl rfl (by kernel_rfl) rfl ?_
  refine qAy (by decide) (by decide) (qAj rfl) ?_
  refine wwg ?_
  refine qAy (by decide) (by decide) (qAj rfl) ?_
  refine wwg ?_
  refine qBm hT rfl 6 rfl hmt hit rfl rfl rfl rfl rfl rfl (by kernel_rfl) rfl ?_
  refine qAy (by decide) (by decide) (qAj rfl) ?_
  refine wwg ?_
  refine qAy (by decide) (by decide) (qAj rfl) ?_
  refine wwg ?_
  refine qBm hT rfl 7 rfl hmt hit rfl rfl rfl rfl rfl rfl (by kernel_rfl) rfl ?_
  refine qAy (by decide) (by decide) (qAj rfl) ?_
  refine wwg ?_
  refine qAy (by decide) (by decide) (qAj rfl) ?_
  refine wwg ?_
  refine qAy (by decide) (by decide) (qAj rfl) ?_
  refine wwdc hd2 ?_
  refine wwg ?_
  refine qBm hT rfl 8 rfl hmt hit rfl rfl rfl rfl rfl rfl (by kernel_rfl) rfl ?_
  refine qAy (by decide) (by decide) (qAj rfl) ?_
  refine wwg ?_
  refine qAy (by decide) (by decide) (qAj rfl) ?_
  refine wwg ?_
  refine qBm hT rfl 9 rfl hmt hit rfl rfl rfl rfl rfl rfl (by kernel_rfl) rfl ?_
  refine qAy (by decide) (by decide) (qAj rfl) ?_
  refine wwg ?_
  refine AWm_range (it:=11) rfl hmt rfl rfl rfl rfl rfl rfl rfl ?_
  intro bm es clock hA
  have hAm:MapIs (mapA [(3,0,kind),(6,1,state),(8,2,name),(11,5,nat),(14,6,bir),(18,7,dgS bir),(21,8,sex),(24,9,exp),(28,10,dgS exp),(31,13,sec)]) es clock:=hA
  refine ww ?_
  refine qAq (ι:=Array Nat×(Nat→List UInt8)) (fun x=>[(1,.ptr 0 0),(8,.ptr 2 0),(81,.ptr 11 0)]) (fun x=>[.row [.d (.int .i64 1),.d (.str kind),.d (.str state),.d (.str sur),.d (.str giv),.d (.str num),.d (.str nat),.d (.str bir),.d (.str sex),.d (.str exp),.d (.str opt),.d (.str sec)],.dead,.row (shB (layD 1) 3),.buf 1 3 [.rx 4 0 30,.rx 5 0 30,.rx 6 0 30],.row (byteAV (lineF (segsZ 1 0) x.2)),.row (byteAV (lineF (segsZ 1 1) x.2)),.row (byteAV (lineF (segsZ 1 2) x.2)),.dead,.dead,.dead,.opq (mapC bm es clock),.opq (iterC bm clock x.1 clock)]) (fun x=>MapInv [(3,0,kind),(6,1,state),(8,2,name),(11,5,nat),(14,6,bir),(18,7,dgS bir),(21,8,sex),(24,9,exp),(28,10,dgS exp),(31,13,sec)] es x) (fun x=>(leftOf es x.1).size) (#[],fun _=>[]) (MapInv.init _ _) ⟨.refl _,.refl _,.refl _,trivial⟩ (HLe.refl _) ?_
  rintro ⟨seen,F⟩ hinv
  simp only
  refine ww ?_
  refine AWk_opR (next_ok (m:=10) hAm hflat rfl rfl rfl rfl) rfl ?_
  rintro u k (⟨h0',rfl,rfl⟩ | ⟨e,p,he,hp,e1,e2,rfl,rfl⟩)
  ·have hFF:=hinv.done (by kernel_rfl) hAm h0'
   subst hFF
   refine ww ?_
   refine qAa rfl (fun c3=>?_) (fun c3=>?_)
   ·exact absurd c3 (by simp)
   refine ww ?_
   exact ⟨(),trivial,⟨.refl _,.refl _,trivial⟩,⟨.refl _,.refl _,.refl _,.refl _,.refl _,.refl _,.refl _,trivial,trivial,trivial,trivial,trivial,trivial⟩⟩
  ·obtain ⟨y,hy,rfl⟩:=List.mem_map.1 hp
   obtain ⟨i,hi15,hyi⟩:=hkeys y hy
   have hys:=hlen y hy
   have hst:=hinv.step (by kernel_rfl) hAm (mem_left he).1 hy hyi (by rw [e1];simp only [flatV];rw [hyi]) e2
   have hsm:=left_shrinks es seen e he
   obtain ⟨ix,n,s⟩:=y
   simp only at hyi hys hst e1 e2
   subst hyi
   simp only
   refine ww ?_
   refine qAa rfl (fun c3=>?_) (fun c3=>?_)
   rotate_left
   ·exact absurd c3 (by simp)
   refine ww ?_
   refine qAd (entry_ok (m:=10) (e:=e) (p:=(.int .i64 (i:Int),.str s)) hAm ⟨rfl,rfl⟩ rfl rfl rfl rfl (mem_left he).1 e1 e2) rfl ?_
   refine ww ?_
   refine qAd (call3 (F:=F) (F':=updF F i s) rfl rfl (put3_spec F i hi15 s hys) rfl rfl rfl rfl rfl) rfl ?_
   refine ww ?_
   exact ⟨(seen.push e.born,updF F i s),hst,hsm,⟨.refl _,.refl _,.refl _,trivial⟩,HLe.refl _⟩
 ·intro _ _
  have hd3:=fun s hs=>qBw s hs
  obtain ⟨g1,g2,g3,g4,g5,g6,g7,g8,g9,g10,g11⟩:=hz
  simp only at g1 g2 g3 g4 g5 g6 g7 g8 g9 g10 g11
  have hdn:=qBc num
  generalize hG:FK [(3,0,kind),(6,1,state),(8,2,name),(11,5,nat),(14,6,bir),(18,7,dgS bir),(21,8,sex),(24,9,exp),(28,10,dgS exp),(31,13,sec)]=G
  generalize hG1:(if num.length > 9 then updF (updF G 3 (num.take 9)) 11 (num.drop 9++dgS num++[60]++opt) else updF (updF (updF G 3 num) 4 (dgS (fitW 9 num))) 11 opt)=G1
  refine qBa (ι:=Unit) (fun _=>[(1,.ptr 0 0),(8,.ptr 2 0)]) (fun _=>[.row [.d (.int .i64 1),.d (.str kind),.d (.str state),.d (.str sur),.d (.str giv),.d (.str num),.d (.str nat),.d (.str bir),.d (.str sex),.d (.str exp),.d (.str opt),.d (.str sec)],.dead,.row (shB (layD 1) 3),.buf 1 3 [.rx 4 0 30,.rx 5 0 30,.rx 6 0 30],.row (byteAV (lineF (segsZ 1 0) G1)),.row (byteAV (lineF (segsZ 1 1) G1)),.row (byteAV (lineF (segsZ 1 2) G1)),.dead,.dead,.dead,.dead,.dead]) (fun _=>True) ?_ ?_
  ·refine ww ?_
   refine qAa rfl (fun d1=>?_) (fun d1=>?_)
   ·have dl:num.length > 9:=by have h3:(9:Int) < (num.length:Int):=(by simpa using d1);omega
    rw [if_pos dl] at hG1
    subst hG1
    have hdg:=hd3 num (by omega)
    have hdl:num.length-9+(digitF num).1.length≤100000:=by omega
    refine ww ?_
    refine qAd (call3 (F:=G) (F':=updF G 3 (num.take 9)) rfl rfl (put3_spec G 3 (by omega) (num.take 9) (by simp;omega)) rfl rfl rfl rfl rfl) rfl ?_
    refine wwn ?_
    refine qBg (fun i=>bif Nat.beq i 12 then [2,3,4,5,6] else [0]) (fun i=>bif Nat.beq i 12 then [2,3,4,5,6] else []) mixed (by kernel_rfl) ?_
    refine wwg ?_
    refine wwdc hdg ?_
    refine wwg ?_
    refine qAs (v:=.tup []) (os:=HC3 (updF (updF G 3 (num.take 9)) 11 (num.drop 9++dgS num++[60]++opt))) (fun kk hk1 hk2=>call3 (F:=updF G 3 (num.take 9)) rfl rfl (put3_spec (updF G 3 (num.take 9)) 11 (by omega) (num.drop 9++dgS num++[60]++opt) (by simp [dgS];omega)) (by simp only [List.map_cons,List.map_nil,hk2 2 (by decide),hk2 3 (by decide),hk2 4 (by decide),hk2 5 (by decide),hk2 6 (by decide)];rfl) rfl rfl rfl rfl) rfl ?_
    refine wwg ?_
    exact ⟨(),trivial,⟨.refl _,.refl _,trivial⟩,HLe.refl _⟩
   ·have dl:¬ num.length > 9:=by have h3:(num.length:Int)≤9:=(by simpa using d1);omega
    rw [if_neg dl] at hG1
    subst hG1
    have hdg:=hd3 (fitW 9 num) (by rw [qBb];omega)
    have hdl:=qBc (fitW 9 num)
    refine ww ?_
    refine qAd (call3 (F:=G) (F':=updF G 3 num) rfl rfl (put3_spec G 3 (by omega) num (by omega)) rfl rfl rfl rfl rfl) rfl ?_
    refine ww ?_
    refine qAd (call3 (F:=updF G 3 num) (F':=updF G 3 num) (r0:=.d (.str (fitW 9 num))) rfl rfl (get3_spec (updF G 3 num) 3 (.inl rfl)) rfl rfl rfl rfl rfl) rfl ?_
    refine wwc hdg ?_
    refine ww ?_
    refine qAd (call3 (F:=updF G 3 num) (F':=updF (updF G 3 num) 4 (dgS (fitW 9 num))) rfl rfl (put3_spec (updF G 3 num) 4 (by omega) (dgS (fitW 9 num)) (by show (digitF (fitW 9 num)).1.length≤_;omega)) rfl rfl rfl rfl rfl) rfl ?_
    refine ww ?_
    refine qAd (call3 (F:=updF (updF G 3 num) 4 (dgS (fitW 9 num))) (F':=updF (updF (updF G 3 num) 4 (dgS (fitW 9 num))) 11 opt) rfl rfl (put3_spec (updF (updF G 3 num) 4 (dgS (fitW 9 num))) 11 (by omega) opt (by omega)) rfl rfl rfl rfl rfl) rfl ?_
    refine ww ?_
    exact ⟨(),trivial,⟨.refl _,.refl _,trivial⟩,HLe.refl _⟩
  ·intro _ _
   generalize hG2:(if opt=[] then G1 else updF G1 12 (dgS (fitW 15 (G1 11))))=G2
   refine qBa (ι:=Unit) (fun _=>[(1,.ptr 0 0),(8,.ptr 2 0)]) (fun _=>[.row [.d (.int .i64 1),.d (.str kind),.d (.str state),.d (.str sur),.d (.str giv),.d (.str num),.d (.str nat),.d (.str bir),.d (.str sex),.d (.str exp),.d (.str opt),.d (.str sec)],.dead,.row (shB (layD 1) 3),.buf 1 3 [.rx 4 0 30,.rx 5 0 30,.rx 6 0 30],.row (byteAV (lineF (segsZ 1 0) G2)),.row (byteAV (lineF (segsZ 1 1) G2)),.row (byteAV (lineF (segsZ 1 2) G2)),.dead,.dead,.dead,.dead,.dead]) (fun _=>True) ?_ ?_
   ·refine ww ?_
    refine qAa rfl (fun d2=>?_) (fun d2=>?_)
    ·have dl:opt≠[]:=by simpa using d2
     rw [if_neg dl] at hG2
     subst hG2
     have hdg:=hd3 (fitW 15 (G1 11)) (by rw [qBb];omega)
     have hdl:=qBc (fitW 15 (G1 11))
     refine ww ?_
     refine qAd (call3 (F:=G1) (F':=G1) (r0:=.d (.str (fitW 15 (G1 11)))) rfl rfl (get3_spec G1 11 (.inr rfl)) rfl rfl rfl rfl rfl) rfl ?_
     refine wwc hdg ?_
     refine ww ?_
     refine qAd (call3 (F:=G1) (F':=updF G1 12 (dgS (fitW 15 (G1 11)))) rfl rfl (put3_spec G1 12 (by omega) (dgS (fitW 15 (G1 11))) (by show (digitF (fitW 15 (G1 11))).1.length≤_;omega)) rfl rfl rfl rfl rfl) rfl ?_
     refine ww ?_
     exact ⟨(),trivial,⟨.refl _,.refl _,trivial⟩,HLe.refl _⟩
    ·have dl:opt=[]:=by simpa using d2
     rw [if_pos dl] at hG2
     subst hG2
     refine ww ?_
     exact ⟨(),trivial,⟨.refl _,.refl _,trivial⟩,HLe.refl _⟩
   intro _ _
   generalize hs:compG [lineF (segsZ 1 0) G2,lineF (segsZ 1 1) G2,lineF (segsZ 1 2) G2]=s
   have hsl:s.length≤1000:=by rw [← hs];exact comp_len3 (qAx G2 _) (qAx G2 _)
   have k2:∀ j,j≠12→G2 j=G1 j:=fun j hj=>by
    rw [← hG2]
    split
    ·rfl
    ·unfold updF;rw [if_neg hj]
   have k1:∀ j,j≠3→j≠4→j≠11→G1 j=G j:=fun j h3 h4 h11=>by
    rw [← hG1]
    split
    ·unfold updF;rw [if_neg h11,if_neg h3]
    ·unfold updF;rw [if_neg h11,if_neg h4,if_neg h3]
   have k0:∀ j,j≠3→j≠4→j≠11→j≠12→G2 j=FK [(3,0,kind),(6,1,state),(8,2,name),(11,5,nat),(14,6,bir),(18,7,dgS bir),(21,8,sex),(24,9,exp),(28,10,dgS exp),(31,13,sec)] j:=fun j h3 h4 h11 h12=>by rw [k2 j h12,k1 j h3 h4 h11,← hG]
   have e4:G 4=[]:=by rw [← hG];rfl
   have e12:G1 12=[]:=by rw [k1 12 (by omega) (by omega) (by omega),← hG];rfl
   have hroom:=ok.opt.1
   have hmost:=ok.num.2.1
   unfold roomF at hroom
   unfold mostN at hmost
   simp only at hroom hmost
   have e11:G1 11=if num.length > 9 then num.drop 9++dgS num++[60]++opt else opt:=by rw [← hG1];split <;> rfl
   have hwd:(opt.length:Int)+((if num.length≤9 then 0 else num.length-9+2:Nat):Int)≤((15:Nat):Int):=by
    by_cases hc:num.length≤9
    ·rw [if_pos hc]
     rw [if_neg (show ¬ num.length > 9 by omega)] at hroom
     simp at hroom ⊢
     omega
    ·rw [if_neg hc]
     rw [if_pos (show num.length > 9 by omega)] at hroom
     simp at hroom ⊢
     omega
   have hlaid:Laid ⟨1,kind,state,sur,giv,num,nat,bir,sex,exp,opt,sec⟩ G2 15:=laid_of ok hwd
    (k0 0 (by omega) (by omega) (by omega) (by omega)) (k0 1 (by omega) (by omega) (by omega) (by omega)) (k0 5 (by omega) (by omega) (by omega) (by omega)) (k0 6 (by omega) (by omega) (by omega) (by omega)) (k0 7 (by omega) (by omega) (by omega) (by omega)) (k0 8 (by omega) (by omega) (by omega) (by omega)) (k0 9 (by omega) (by omega) (by omega) (by omega)) (k0 10 (by omega) (by omega) (by omega) (by omega))
    (by rw [k2 3 (by omega),← hG1];split <;> rfl) (by rw [k2 4 (by omega),← hG1];split;exact e4;rfl) (by rw [k2 11 (by omega)];exact e11)
   have hlines:[lineF (segsZ 1 0) (updF G2 14 (dgS s)),lineF (segsZ 1 1) (updF G2 14 (dgS s)),lineF (segsZ 1 2) (updF G2 14 (dgS s))]=buildZ ⟨1,kind,state,sur,giv,num,nat,bir,sex,exp,opt,sec⟩:=lines_card ok rfl hlaid (by rw [k0 2 (by omega) (by omega) (by omega) (by omega)];simp only;rw [hnm];rfl) (by simp only;rw [hnm];exact hNl) (k0 13 (by omega) (by omega) (by omega) (by omega)) s hs.symm
   have hcs:=comp3_spec G2
   rw [hs] at hcs
   have hdg:=hd3 s (by omega)
   have hdl:=qBc s
   refine ww ?_
   refine qAd (call3 (F:=G2) (F':=G2) (r0:=.d (.str s)) rfl rfl hcs rfl rfl rfl rfl rfl) rfl ?_
   refine wwc hdg ?_
   refine ww ?_
   refine qAd (call3 (F:=G2) (F':=updF G2 14 (dgS s)) rfl rfl (put3_spec G2 14 (by omega) (dgS s) (by show (digitF s).1.length≤_;omega)) rfl rfl rfl rfl rfl) rfl ?_
   generalize updF G2 14 (dgS s)=G3 at hlines ⊢
   refine ww ?_
   refine qAo ?_
   refine qBh 13 1 12 (es:=[]) (.inr ⟨rfl,rfl⟩) rfl ?_
   refine qAq (ι:=Nat) (fun i=>[(142,.bm 3 3),(143,.d (.int .i64 3)),(144,.d (.int .i64 (i:Int))),(13,.sl 1 (encSs ([lineF (segsZ 1 0) G3,lineF (segsZ 1 1) G3,lineF (segsZ 1 2) G3].take i)) (.right 12))]) (fun i=>[.row [.d (.int .i64 1),.d (.str kind),.d (.str state),.d (.str sur),.d (.str giv),.d (.str num),.d (.str nat),.d (.str bir),.d (.str sex),.d (.str exp),.d (.str opt),.d (.str sec)],.dead,.row (shB (layD 1) 3),.buf 1 3 [.rx 4 0 30,.rx 5 0 30,.rx 6 0 30],.row (byteAV (lineF (segsZ 1 0) G3)),.row (byteAV (lineF (segsZ 1 1) G3)),.row (byteAV (lineF (segsZ 1 2) G3)),.dead,.dead,.dead,.dead,.dead,.right 1 i]) (fun i=>i≤3) (fun i=>3-i) 0 (by omega) ⟨.refl _,.refl _,.refl _,.refl _,trivial⟩ (HLe.refl _) ?_
   intro i hi
   refine ww ?_
   refine qAa rfl (fun c5=>?_) (fun c5=>?_)
   ·have hi3:i=0∨i=1∨i=2:=by have h3:(i:Int) < 3:=(by simpa using c5);omega
    rcases hi3 with rfl | rfl | rfl
    ·refine ww ?_
     refine qAd (qAc (qBe (sz:=1) hT rfl rfl rfl rfl (by omega))) rfl ?_
     refine qAd (v:=.rx 4 0 30) (qBl hT rfl rfl rfl rfl rfl rfl) rfl ?_
     refine ww ?_
     refine qAd (qDh (s:=lineF (segsZ 1 0) G3) hT rfl rfl rfl (by omega) rfl (qAx G3 _) (rx_all _)) rfl ?_
     refine ww ?_
     refine qAd (qAk (i:=12) hT rfl rfl rfl rfl rfl rfl (by show (0+1)*(16+1)≤140737488355328;omega)) rfl ?_
     refine ww ?_
     exact ⟨1,by omega,by omega,⟨.refl _,.refl _,.refl _,.refl _,trivial⟩,HLe.refl _⟩
    ·refine ww ?_
     refine qAd (qAc (qBe (sz:=1) hT rfl rfl rfl rfl (by omega))) rfl ?_
     refine qAd (v:=.rx 5 0 30) (qBl hT rfl rfl rfl rfl rfl rfl) rfl ?_
     refine ww ?_
     refine qAd (qDh (s:=lineF (segsZ 1 1) G3) hT rfl rfl rfl (by omega) rfl (qAx G3 _) (rx_all _)) rfl ?_
     refine ww ?_
     refine qAd (qAk (i:=12) hT rfl rfl rfl rfl rfl rfl (by show (1+1)*(16+1)≤140737488355328;omega)) rfl ?_
     refine ww ?_
     exact ⟨2,by omega,by omega,⟨.refl _,.refl _,.refl _,.refl _,trivial⟩,HLe.refl _⟩
    ·refine ww ?_
     refine qAd (qAc (qBe (sz:=1) hT rfl rfl rfl rfl (by omega))) rfl ?_
     refine qAd (v:=.rx 6 0 30) (qBl hT rfl rfl rfl rfl rfl rfl) rfl ?_
     refine ww ?_
     refine qAd (qDh (s:=lineF (segsZ 1 2) G3) hT rfl rfl rfl (by omega) rfl (qAx G3 _) (rx_all _)) rfl ?_
     refine ww ?_
     refine qAd (qAk (i:=12) hT rfl rfl rfl rfl rfl rfl (by show (2+1)*(16+1)≤140737488355328;omega)) rfl ?_
     refine ww ?_
     exact ⟨3,by omega,by omega,⟨.refl _,.refl _,.refl _,.refl _,trivial⟩,HLe.refl _⟩
   have hi':i=3:=by have h3:¬ ((i:Int) < 3):=(by simpa using c5);omega
   subst hi'
   refine ww ?_
   exact rq ⟨rfl,rfl⟩ rfl (AV.le.tup ⟨AV.le.dat' (by rw [← hlines];rfl),.refl _,trivial⟩)
end Tdoc
