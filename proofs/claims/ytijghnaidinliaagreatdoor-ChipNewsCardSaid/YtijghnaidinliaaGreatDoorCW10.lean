/- Part 10 of the proof: the texts CT CU CV HE HF HG HH HI CW CX CY HJ HK HS Z7 Z8 Z9 ZK0 NV HT OJ OJ2 HU ZH NW ZI ZA ZB ZJ Y6 ZK NX. -/
import Derived.Test.YtijghnaidinliaaGreatDoorCW9
set_option maxHeartbeats 8000000
set_option maxRecDepth 100000
set_option linter.unusedVariables false
set_option linter.unusedSimpArgs false
namespace Tdoc
open Go Go.Proofs
theorem qYj (b:List UInt8) (l r:Nat):qHx (qAg b) (l:Int) (r:Int)=qAg ((b.drop l).take (r-l)):=by unfold qHx;rw [encB_drop,encB_take];rfl
theorem qQk (b:List UInt8) (hb:b.length≤9223372036854775807):Spec Tryz.prog 37 [.d (.sl 1 (qAg b))] [] (fun r h'=>r=qXg (qDd b)∧h'=[]):=by
 have hl:=encB_length b
 by_cases h4:b.length < 4
 ·rw [decTr_short h4]
  refine qAb hT Tryz.func37 rfl rfl rfl rfl ?_;intro E hE
  refine wwn ?_
  refine qAa rfl (fun c1=>?_) (fun c1=>?_)
  ·refine wwn ?_
   exact wwr
  ·rw [hl] at c1;simp at c1;omega
 have hb4:4≤b.length:=by omega
 have z1:=qEf (b.take 3) (by rw [List.length_take];omega)
 have hday:((nbV (b.take 3):Nat):Int)=qJw b:=rfl
 rw [hday] at z1
 generalize hdd:qJw b=day at z1
 have e3:(qAg b)[((3:Int)).toNat]?=some [.int .u8 ((b.getD 3 0).toNat:Int)]:=encB_getD (by omega)
 have hn3:=(b.getD 3 0).toNat_lt
 generalize hn:(b.getD 3 0).toNat=n at e3 hn3
 have w3:IntKind.i64.wrap (n:Int)=(n:Int):=qAj (by omega)
 have cu0:(qAg b).take ((3:Int)).toNat=qAg (b.take 3):=encB_take b 3
 refine qAb hT Tryz.func37 rfl rfl rfl rfl ?_;intro E hE
 refine wwn ?_
 refine qAa rfl (fun c1=>?_) (fun c1=>?_)
 ·rw [hl] at c1;simp at c1;omega
 refine wwn ?_
 rw [cu0]
 refine wwn ?_
 refine wwc z1 ?_
 refine wwn ?_
 refine qAi (qGa 1 0 2 5 (es:=[]) rfl rfl rfl ?_)
 refine qAw (ι:=Nat×List Tp×Nat) (fun x=>[(0,.d (.sl 1 (qAg b))),(2,.ptr 0 0),(4,.ptr 1 0),(5,.I (x.2.2:Int)),(6,.I (x.1:Int))]) (fun x=>[.row [.sl 5 [] .full,.I 0],.row [.sl 5 (qAp x.2.1) (.right 2),.I day],.right 5 (qAp x.2.1).length])
  (fun x=>x.1≤3∧x.1≤n∧x.2.2≤4+268*x.1∧RInv b x.1 x.2.1 x.2.2) (fun x=>3-x.1) (0,[],4) ⟨by omega,by omega,by simp only;omega,RInv.zero hb4⟩ yf (HLe.refl _) ?_
 rintro ⟨i,l,a⟩ ⟨hi3,hi,hab,hI⟩
 simp only at hi3 hi hab hI ⊢
 have hle:=hI.le
 have hlen:(qAp l).length=i:=by rw [encTps_length,hI.len]
 refine wwn ?_
 refine wwi e3 ?_
 refine wwn ?_
 rw [w3]
 refine wwn ?_
 refine qAa rfl (fun c2=>?_) (fun c2=>?_)
 ·have hi':i < n∧i < 3:=by simp at c2;omega
  have hg:i < (b.getD 3 0).toNat:=by omega
  have F1:=hI.stop hg
  have F2:=hI.next
  refine wwn ?_
  by_cases ha:b.length≤a
  ·have hno:decide ((a:Int)≥((qAg b).length:Int))=true:=by rw [hl];simp;omega
   refine wwk hno ?_
   refine qAa rfl (fun c3=>?_) (fun c3=>?_)
   ·rw [F1 (.inl ha)]
    refine wwn ?_
    exact wwr
   ·rw [hno] at c3
    exact absurd c3 (by simp)
  have ea:(qAg b)[((a:Int)).toNat]?=some [.int .u8 ((b.getD a 0).toNat:Int)]:=encB_getD (by omega)
  have hm:=(b.getD a 0).toNat_lt
  unfold qYg at F2
  generalize (b.getD a 0).toNat=m at *
  have v1:IntKind.i64.wrap (a+1:Int)=((a+1:Nat):Int):=by rw [qAj (by omega)];omega
  have v2:IntKind.i64.wrap (m:Int)=(m:Int):=qAj (by omega)
  have v3:IntKind.i64.wrap (((a+1:Nat):Int)+(m:Int))=((a+1+m:Nat):Int):=by rw [qAj (by omega)];omega
  have v4:IntKind.i64.wrap (((a+1+m:Nat):Int)+12)=((a+1+m+12:Nat):Int):=by rw [qAj (by omega)];omega
  refine wwgi ea ?_
  refine wwn ?_
  rw [v1,v2,v3,v4]
  refine wwn ?_
  refine qAa rfl (fun c3=>?_) (fun c3=>?_)
  ·rw [hl] at c3
   rw [F1 (by simp at c3;omega)]
   refine wwn ?_
   exact wwr
  rw [hl] at c3
  have F3:=F2 (by simp at c3;omega)
  have hx:a+1+m+12≤b.length:=by simp at c3;omega
  refine wwn ?_
  refine wwi ea ?_
  refine wwn ?_
  rw [v2]
  refine wwn ?_
  rw [v1,v3]
  refine wwn ?_
  have cx:(qAg b).drop (((a+1+m:Nat):Int)).toNat=qAg (b.drop (a+1+m)):=encB_drop b _
  rw [cx]
  have hxl:12≤(b.drop (a+1+m)).length:=by rw [List.length_drop];omega
  have ch:qHx (qAg b) ((a+1:Nat):Int) ((a+1+m:Nat):Int)=qAg ((b.drop (a+1)).take m):=by rw [qYj,Nat.add_sub_cancel_left]
  have y1:=qEf ((b.drop (a+1+m)).take 4) (by rw [List.length_take];omega)
  have y2:=qEf (((b.drop (a+1+m)).drop 4).take 2) (by rw [List.length_take];omega)
  have y3:=qEf (((b.drop (a+1+m)).drop 6).take 3) (by rw [List.length_take];omega)
  have y4:=qEf (((b.drop (a+1+m)).drop 9).take 3) (by rw [List.length_take];omega)
  have hxe:=encB_length (b.drop (a+1+m))
  generalize b.drop (a+1+m)=x at *
  generalize (b.drop (a+1)).take m=hb0 at *
  have g1:(qAg x).take ((4:Int)).toNat=qAg (x.take 4):=encB_take x 4
  have g2:qHx (qAg x) (4:Int) (6:Int)=qAg ((x.drop 4).take 2):=qYj x 4 6
  have g3:qHx (qAg x) (6:Int) (9:Int)=qAg ((x.drop 6).take 3):=qYj x 6 9
  have g4:qHx (qAg x) (9:Int) (12:Int)=qAg ((x.drop 9).take 3):=qYj x 9 12
  generalize ((nbV (x.take 4):Nat):Int)=key at *
  generalize ((nbV ((x.drop 4).take 2):Nat):Int)=rights at *
  generalize ((nbV ((x.drop 6).take 3):Nat):Int)=frm at *
  generalize ((nbV ((x.drop 9).take 3):Nat):Int)=til at *
  refine qDg (fun i=>bif Nat.beq i 1 then [1] else bif Nat.beq i 25 then [2] else bif Nat.beq i 27 then [1] else []) (fun i=>bif Nat.beq i 25 then [2] else bif Nat.beq i 27 then [1] else []) mixed (by kernel_rfl) ?_
  refine wwg ?_
  rw [v1,v3]
  refine wwg ?_
  rw [ch]
  refine qEw hT (fun _=>rfl) rfl rfl (byteCells_encB hb0) ?_
  rw [bytesOf_encB]
  refine wwg ?_
  rw [g1]
  refine wwdc y1 ?_
  refine wwg ?_
  rw [g2]
  refine wwdc y2 ?_
  refine wwg ?_
  rw [g3]
  refine wwdc y3 ?_
  refine wwg ?_
  rw [g4]
  refine wwdc y4 ?_
  refine wwg ?_
  refine qAm (os:=[]) (fun k hk1 hk2=>buildSl_ok hT rfl rfl) rfl ?_
  refine qAm (v:=.sl 5 (qAp l++[qEi ⟨hb0,key,rights,frm,til⟩]) (.right 2)) (os:=[.right 5 (qAp l++[qEi ⟨hb0,key,rights,frm,til⟩]).length]) (fun k hk1 hk2=>qAn (i:=2) (es2:=[qEi ⟨hb0,key,rights,frm,til⟩]) hT rfl rfl rfl rfl ((hk2 2 List.mem_cons_self).trans rfl) rfl (by show ((qAp l).length+1)*(48+1)≤_;omega)) rfl ?_
  rw [← encTps_snoc]
  refine wwg ?_
  refine wwn ?_
  rw [v1,v3,v4]
  refine wwn ?_
  exact ⟨(i+1,l++[⟨hb0,key,rights,frm,til⟩],a+1+m+12),⟨by simp only;omega,by simp only;omega,by simp only;omega,F3⟩,by simp only;omega,⟨.refl _,.refl _,.refl _,.refl _,.int (by simp only;rw [qAj (by omega)];omega),trivial⟩,HLe.refl _⟩
 have hi':i=n∨(2 < i∧i≤n):=by simp at c2;omega
 rw [← hn] at hi'
 have hd:=hI.done hb4 hi'
 rw [hdd] at hd
 rw [hd]
 have hE2:=qJv l day (by have:=hI.len;omega) (fun p hp=>by have:=hI.hold p hp;omega)
 generalize qBp l day=w at hE2 ⊢
 obtain ⟨w,we⟩:=w
 simp only at hE2 ⊢
 refine wwe ?_
 refine qAs (l:=[(0,.d (.sl 1 (qAg b))),(2,.ptr 0 0),(4,.ptr 1 0)]) (h':=[.row [.sl 5 [] .full,.I 0],.row [.d (.sl 5 (qAp l)),.I day],.dead]) yf ⟨ObLe.refl _,⟨AV.le.dat,.refl _,trivial⟩,trivial,trivial⟩ ?_
 refine wwn ?_
 refine wwc hE2 ?_
 refine wwn ?_
 by_cases hwe:we=0
 case neg =>
  have hno:(we != 0)=true:=by simpa using hwe
  refine wwk hno ?_
  refine qAa rfl (fun c4=>?_) (fun c4=>?_)
  ·rw [if_pos (.inl hwe)]
   refine wwn ?_
   exact wwr
  ·rw [hno] at c4
   exact absurd c4 (by simp)
 refine qJb hT rfl rfl rfl rfl (fun hg=>⟨(sg (C:=True) hg).1,byteCells_encB w⟩) ?_
 refine wwn ?_
 refine qJb hT rfl rfl rfl rfl (fun hg=>⟨(sg (C:=True) hg).1,byteCells_encB b⟩) ?_
 refine wwn ?_
 refine qAa rfl (fun c4=>?_) (fun c4=>?_)
 ·rw [bytesOf_encB,bytesOf_encB] at c4
  rw [if_pos (by simpa using c4)]
  refine wwn ?_
  exact wwr
 rw [bytesOf_encB,bytesOf_encB] at c4
 rw [if_neg (by simpa using c4)]
 refine wwn ?_
 exact wwr
theorem decRc28_spec (b:List UInt8) (hb:b.length≤9223372036854775807):Spec Tryz.prog 14 [.d (.sl 1 (qAg b))] [] (fun r h'=>r=qTy (qGs b)∧h'=[]):=by
 by_cases h3:b.length < 3
 ·rw [decRc_few h3]
  have hn:decide (((qAg b).length:Int) < 3)=true:=by rw [encB_length];simp;omega
  refine qAb hT Tryz.func14 rfl rfl rfl rfl ?_;intro E hE
  refine wwk hn ?_
  refine qAa rfl (fun c1=>?_) (fun c1=>?_)
  ·refine ww ?_
   exact wwr
  ·rw [hn] at c1
   exact absurd c1 (by simp)
 match b,h3,hb with
 | [],h3,_=>exact absurd (by simp) h3
 | [_],h3,_=>exact absurd (by simp) h3
 | [_,_],h3,_=>exact absurd (by simp) h3
 | x0::x1::x2::r,h3,hb =>
  rw [decRc_eq]
  have hl:(qAg (x0::x1::x2::r)).length=r.length+3:=by rw [encB_length];rfl
  have e0:(qAg (x0::x1::x2::r))[((0:Int)).toNat]?=some [.int .u8 (x0.toNat:Int)]:=rfl
  have e1:(qAg (x0::x1::x2::r))[((1:Int)).toNat]?=some [.int .u8 (x1.toNat:Int)]:=rfl
  have e2:(qAg (x0::x1::x2::r))[((2:Int)).toNat]?=some [.int .u8 (x2.toNat:Int)]:=rfl
  have d:(x0::x1::x2::r).drop (3+x2.toNat)=r.drop x2.toNat:=by rw [← List.drop_drop];rfl
  have t:((x0::x1::x2::r).drop 3).take x2.toNat=r.take x2.toNat:=rfl
  have hlb:(x0::x1::x2::r).length=r.length+3:=rfl
  have hDe:=qQk (r.drop x2.toNat) (by rw [List.length_drop];omega)
  have k0:=x0.toNat_lt;have k1:=x1.toNat_lt;have k2:=x2.toNat_lt
  generalize x0::x1::x2::r=b at *
  generalize x0.toNat=n0 at *;generalize x1.toNat=n1 at *;generalize x2.toNat=n2 at *
  have w2:IntKind.i64.wrap (n2:Int)=(n2:Int):=qAj (by omega)
  have w3:IntKind.i64.wrap (3+(n2:Int))=((3+n2:Nat):Int):=by rw [qAj (by omega)];simp
  refine qAb hT Tryz.func14 rfl rfl rfl rfl ?_;intro E hE
  refine ww ?_
  refine wwgi e0 ?_
  refine ww ?_
  refine wwgi e1 ?_
  refine ww ?_
  refine wwgi e2 ?_
  refine ww ?_
  refine wwgi e2 ?_
  refine ww ?_
  refine qAa rfl (fun c1=>?_) (fun c1=>?_)
  ·rw [w2,w3,hl] at c1
   rw [if_pos (by simp at c1;omega)]
   refine ww ?_
   exact wwr
  rw [w2,w3,hl] at c1
  have hc:¬ (15 < n0∨15 < n1∨16 < n2∨r.length < n2):=by simp at c1;omega
  rw [if_neg hc]
  refine ww ?_
  refine wwi e2 ?_
  refine ww ?_
  rw [w2,w3]
  refine ww ?_
  have dr:(qAg b).drop (((3+n2:Nat):Int)).toNat=qAg (r.drop n2):=by rw [encB_drop];exact congrArg qAg d
  rw [dr]
  generalize qDd (r.drop n2)=o at hDe ⊢
  cases o with
  | none =>
   simp only [qXg] at hDe ⊢
   refine wwc hDe ?_
   refine ww ?_
   refine qAa rfl (fun c4=>?_) (fun c4=>?_)
   ·refine ww ?_
    exact wwr
   ·exact absurd c4 (by simp)
  | some w =>
   obtain ⟨l,day⟩:=w
   simp only [qXg] at hDe ⊢
   refine wwc hDe ?_
   refine ww ?_
   refine qAa rfl (fun c4=>?_) (fun c4=>?_)
   ·exact absurd c4 (by simp)
   have cu:qHx (qAg b) (3:Int) ((3+n2:Nat):Int)=qAg (r.take n2):=by
    unfold qHx
    rw [encB_drop,encB_take,← t]
    show qAg ((b.drop 3).take (3+n2-3))=_
    rw [Nat.add_sub_cancel_left]
   have v0:IntKind.i64.wrap (n0:Int)=(n0:Int):=qAj (by omega)
   have v1:IntKind.i64.wrap (n1:Int)=(n1:Int):=qAj (by omega)
   refine wwn ?_
   refine qDg (fun i=>bif Nat.beq i 12 then [1] else bif Nat.beq i 14 then [0] else []) (fun i=>bif Nat.beq i 14 then [0] else []) mixed (by kernel_rfl) ?_
   refine wwg ?_
   refine qAm (os:=[]) (fun k hk1 hk2=>qAd (indexAddr_ok hT rfl rfl rfl rfl (by omega) e0)) rfl ?_
   refine wwg ?_
   refine qAm (os:=[]) (fun k hk1 hk2=>qAd (indexAddr_ok hT rfl rfl rfl rfl (by omega) e1)) rfl ?_
   refine wwg ?_
   rw [cu]
   refine qAm (v:=.d (.sl 1 (qAg (r.take n2)))) (os:=[]) (fun k hk1 hk2=>qBe (es:=[]) (es2:=qAg (r.take n2)) hT rfl rfl rfl (.inr ⟨rfl,rfl⟩) rfl (by show (0+(qAg (r.take n2)).length)*(1+1)≤_;rw [encB_length,List.length_take];omega)) rfl ?_
   rw [v0,v1]
   refine wwg ?_
   refine ww ?_
   exact wwr
theorem qNi (l:List Tp) (day:Int) (hl:l.length≤1000000):Spec Tryz.prog 38 [.agg [.d (.sl 5 (qAp l)),.I day],.agg [.d (.sl 5 (qAp l)),.I day]] [] (fun r h'=>r=.d (.bool true)∧h'=[]):=by
 have hll:=encTps_length l
 refine qAb hT Tryz.func38 rfl rfl rfl rfl ?_;intro E hE
 refine ww ?_
 refine qAa rfl (fun c1=>?_) (fun c1=>?_)
 ·exact absurd c1 (by simp)
 refine ww ?_
 refine qAw (ι:=Nat) (fun i=>[(2,.ptr 0 0),(3,.ptr 1 0),(5,.I (i:Int))]) (fun _=>[.row [.d (.sl 5 (qAp l)),.I day],.row [.d (.sl 5 (qAp l)),.I day]]) (fun i=>i≤l.length) (fun i=>l.length-i) 0 (by omega) yf (HLe.refl _) ?_
 intro i hi
 have hwr:IntKind.i64.wrap ((i:Int)+1)=((i+1:Nat):Int):=by rw [qAj (by omega)];simp
 refine ww ?_
 refine qAa rfl (fun c2=>?_) (fun c2=>?_)
 ·have c2':i < l.length:=by rw [hll] at c2;simpa using c2
  have hel:=encTps_at c2'
  generalize l[i]=x at hel
  obtain ⟨a,b,c,d,e⟩:=x
  unfold qEi at hel
  simp only at hel
  refine ww ?_
  refine qBh (qAd (indexAddr_ok hT rfl rfl rfl rfl (by omega) hel)) rfl rfl ?_
  refine ww ?_
  refine qBh (qAd (indexAddr_ok hT rfl rfl rfl rfl (by omega) hel)) rfl rfl ?_
  refine ww ?_
  refine qBh (qAd (structNe_ok (ds:=[.str a,.int .i64 b,.int .i64 c,.int .i64 d,.int .i64 e]) (es:=[.str a,.int .i64 b,.int .i64 c,.int .i64 d,.int .i64 e]) (ks:=[none,some .i64,some .i64,some .i64,some .i64]) rfl (by kernel_rfl) (by kernel_rfl) (by kernel_rfl) (by kernel_rfl) rfl rfl rfl rfl)) rfl rfl ?_
  refine ww ?_
  refine qAa rfl (fun c3=>?_) (fun c3=>?_)
  ·exact absurd c3 (by simp [qLq,qRw])
  refine ww ?_
  exact ⟨i+1,c2',by omega,⟨.refl _,.refl _,.int hwr,trivial⟩,HLe.refl _⟩
 refine ww ?_
 exact wwr
def qEa (pr ur:Int) (pin:List UInt8) (l:List Tp) (day:Int):List AV:=[.d (.int .i64 pr),.d (.int .i64 ur),.d (.sl 1 (qAg pin)),.d (.sl 5 (qAp l)),.d (.int .i64 day)]
theorem sameRc_self (pr ur:Int) (pin:List UInt8) (l:List Tp) (day:Int) (hp:pin.length≤1000000000) (hl:l.length≤1000000) :
  Spec Tryz.prog 16 [.agg (qEa pr ur pin l day),.agg (qEa pr ur pin l day)] [] (fun r h'=>r=.d (.bool true)∧h'=[]):=by
 have h1:=qBi pin hp
 have h2:=qNi l day hl
 unfold qEa
 refine qAb hT Tryz.func16 rfl rfl rfl rfl ?_;intro E hE
 refine ww ?_
 refine wwgc h1 ?_
 refine ww ?_
 refine wwgc h2 ?_
 refine ww ?_
 refine rq ⟨rfl,rfl⟩ rfl (.bool ?_)
 simp
theorem qTb:Spec Tryz.prog 177 [.agg (comCells 0 132 0 0 [] 8)] [] (fun r h'=>r=.d (.bool true)∧h'=[]):=by
 refine qAb hT Tryz.func177 rfl rfl rfl rfl ?_;intro E hE
 refine ww ?_
 exact wwr
def maC (p:Per) (m0 m1 seed nonce:List UInt8) (pr ur:Int) (pin:List UInt8) (l:List Tp) (day cut:Int) (old:List UInt8):List AV :=
 chG p m0 m1 seed true (-1) (-1) nonce++(qEa pr ur pin l day++[.I cut,.I 0,.d (.bool false),.d (.bool false),.d (.sl 1 (qAg old))])
theorem drawM_spec (p:Per) (m0 m1 seed nonce:List UInt8) (pr ur:Int) (pin:List UInt8) (l:List Tp) (day cut:Int) (old:List UInt8) (hs:seed.length≤500000) :
  Spec Tryz.prog 178 [.ptr 0 0,.I 8] [.row (maC p m0 m1 seed nonce pr ur pin l day cut old)]
   (fun r h'=>r=.d (.sl 1 (qAg (qCu seed 8)))∧h'=[.row (maC p m0 m1 (qFp seed) nonce pr ur pin l day cut old)]):=by
 have hd:=qTp seed 8 hs (by omega) (by omega)
 generalize qCu seed 8=out at hd ⊢
 generalize qFp seed=nx at hd ⊢
 refine qAb hT Tryz.func178 rfl rfl rfl rfl ?_;intro E hE
 refine ww ?_
 refine wwc hd ?_
 refine ww ?_
 exact wwr
theorem cmdValid_spec:Spec Tryz.prog 102 [.agg (comCells 0 132 0 0 [] 8)] [] (fun r h'=>r=.d (.bool true)∧h'=[]):=by
 refine qAb hT Tryz.func102 rfl rfl rfl rfl ?_;intro E hE
 refine ww ?_
 refine qAw (ι:=Nat) (fun i=>[(1,.ptr 0 0),(12,.d (.sl 1 [[.int .i64 132],[.int .i64 0],[.int .i64 0]])),(13,.I 3),(14,.I (i:Int))]) (fun _=>[.row (comCells 0 132 0 0 [] 8)]) (fun i=>i≤3) (fun i=>3-i) 0 (Nat.zero_le _)
  ⟨.refl _,AV.le.dat,.refl _,.refl _,trivial⟩ (HLe.refl _) ?_
 intro i hi
 rcases (by omega:i=0∨i=1∨i=2∨i=3) with rfl | rfl | rfl | rfl
 ·refine ww ?_
  refine qAa rfl (fun q=>?_) (fun q=>absurd q (by decide))
  refine ww ?_
  refine qAe (qAd (indexAddr_ok hT rfl rfl rfl rfl (by decide) rfl)) rfl ?_
  refine ww ?_
  refine qAa rfl (fun q=>absurd q (by decide)) (fun q=>?_)
  refine ww ?_
  exact ⟨1,by omega,by omega,yf,HLe.refl _⟩
 ·refine ww ?_
  refine qAa rfl (fun q=>?_) (fun q=>absurd q (by decide))
  refine ww ?_
  refine qAe (qAd (indexAddr_ok hT rfl rfl rfl rfl (by decide) rfl)) rfl ?_
  refine ww ?_
  refine qAa rfl (fun q=>absurd q (by decide)) (fun q=>?_)
  refine ww ?_
  exact ⟨2,by omega,by omega,yf,HLe.refl _⟩
 ·refine ww ?_
  refine qAa rfl (fun q=>?_) (fun q=>absurd q (by decide))
  refine ww ?_
  refine qAe (qAd (indexAddr_ok hT rfl rfl rfl rfl (by decide) rfl)) rfl ?_
  refine ww ?_
  refine qAa rfl (fun q=>absurd q (by decide)) (fun q=>?_)
  refine ww ?_
  exact ⟨3,by omega,by omega,yf,HLe.refl _⟩
 ·refine ww ?_
  refine qAa rfl (fun q=>absurd q (by decide)) (fun q=>?_)
  refine ww ?_
  exact wwr
theorem qJp (p:Per) (m0 m1 seed:List UInt8) (pr ur:Int) (pin:List UInt8) (l:List Tp) (day cut:Int) (old:List UInt8) (hs:seed.length≤500000) :
  Spec Tryz.prog 149 [.ptr 0 0,.agg (comCells 0 132 0 0 [] 8)] [.row (maC p m0 m1 seed [] pr ur pin l day cut old)]
   (fun r h'=>r=.agg [.d (.sl 1 (qAg (qCu seed 8))),.I 36864]∧h'=[.row (maC p m0 m1 (qFp seed) (qCu seed 8) pr ur pin l day cut old)]):=by
 have hd:=drawM_spec p m0 m1 seed [] pr ur pin l day cut old hs
 have hb:=qTb
 have hcl:=qBc (qAg (qCu seed 8)) (by rw [encB_length];have:(qCu seed 8).length≤8:=List.length_take_le _ _;omega)
 generalize qCu seed 8=out at hd hcl ⊢
 generalize qFp seed=nx at hd ⊢
 refine qAb hT Tryz.func149 rfl rfl rfl rfl ?_;intro E hE
 refine ww ?_
 refine wwc hb ?_
 refine ww ?_
 refine qAa rfl (fun c1=>?_) (fun c1=>?_)
 ·exact absurd c1 (by simp)
 refine ww ?_
 refine qAa rfl (fun c2=>?_) (fun c2=>?_)
 ·exact absurd c2 (by simp [qAg])
 refine wwn ?_
 refine qAe (qBn (v:=.d (.sl 1 (qAg out))) (H':=[.row (maC p m0 m1 nx [] pr ur pin l day cut old),.row (comCells 0 132 0 0 [] 8),.row [.sl 1 [] .full,.I 0]]) rfl rfl hd [0] (by decide) rfl rfl rfl rfl rfl rfl rfl) rfl ?_
 refine wwn ?_
 refine wwc hcl ?_
 refine wwn ?_
 exact wwr
theorem qUs {E:Env} {N:Nat} {ops:List Oper} {Q:(Nat→AV)→List AObj→Prop} {op:Op} {ty:TypeId} {pos:String} {after:Array Edge} {rest:List Oper} {l:List (Nat×AV)} {h h':List AObj} {t m g i b0:Nat} {x kx vx:Operand} {A:List (Int×Nat)} {n:Int}
  (ho:op=.insert t x kx vx) (ht:Tryz.prog.underlying t=some (.map 3 122)) (hx:ev (look l) x=.mp m) (hk:ev (look l) kx=.I n) (hv:ev (look l) vx=.fn (.func g) [.pv i b0] [])
  (hi:h[m]?=some (.opq (qJk b0 A))) (hnew:(A.all fun p=>!decide (p.1=n))=true) (hh:qEh (h.set m (.opq (qJk b0 ((n,g)::A)))) some=some h') (hq:AWk Tryz.prog E N ops Q rest (look l) h') :
  AWk Tryz.prog E N ops Q (⟨none,op,ty,pos,after,none⟩::rest) (look l) h :=
 qBb (insertV_ok (d:=.int .i64) ho ht (by kernel_rfl) hx hk hv hi (fun n=>rfl) (fun p hp=>by simpa using (List.all_eq_true.1 hnew) p hp)) hh hq
theorem qMi (p:Per) (m0 m1 seed:List UInt8) (pr ur:Int) (pin:List UInt8) (l:List Tp) (day cut:Int) (old:List UInt8) (hs:seed.length≤500000) :
  Spec Tryz.prog 133 [.ptr 0 0,.agg (comCells 0 132 0 0 [] 8)] [.row (maC p m0 m1 seed [] pr ur pin l day cut old)]
   (fun r h'=>r=.agg [.d (.sl 1 (qAg (qCu seed 8))),.I 36864]∧h'=[.row (maC p m0 m1 (qFp seed) (qCu seed 8) pr ur pin l day cut old)]):=by
 have hc:=qJp p m0 m1 seed pr ur pin l day cut old hs
 have hfu:Tryz.prog.underlying 122=some (.func #[69] #[81] false):=by kernel_rfl
 have hmt:Tryz.prog.underlying 197=some (.map 3 122):=by kernel_rfl
 generalize qCu seed 8=out at hc ⊢
 generalize qFp seed=nx at hc ⊢
 generalize hC:maC p m0 m1 seed [] pr ur pin l day cut old=C at hc ⊢
 generalize hD:maC p m0 m1 nx out pr ur pin l day cut old=D at hc ⊢
 have hlow:qDl 0 [AObj.row C]=true:=by rw [← hC];rfl
 have hlow':qDl 0 [AObj.row D]=true:=by rw [← hD];rfl
 refine qAb hT Tryz.func133 rfl rfl rfl rfl ?_;intro E hE
 refine qAi ?_
 refine qAl (qAh ?_)
 refine wws ?_
 refine qTu 0 0 rfl fun b=>?_
 refine qAl (qAh ?_)
 refine qAe (makeMapV_ok (m:=1) b rfl rfl) rfl ?_
 refine wk hT rfl rfl ?_
 refine wk hT rfl rfl ?_
 refine qUs rfl hmt rfl rfl rfl rfl rfl rfl ?_
 refine wk hT rfl rfl ?_
 refine wk hT rfl rfl ?_
 refine qUs rfl hmt rfl rfl rfl rfl rfl rfl ?_
 refine wk hT rfl rfl ?_
 refine wk hT rfl rfl ?_
 refine qUs rfl hmt rfl rfl rfl rfl rfl rfl ?_
 refine wk hT rfl rfl ?_
 refine wk hT rfl rfl ?_
 refine qUs rfl hmt rfl rfl rfl rfl rfl rfl ?_
 refine wk hT rfl rfl ?_
 refine wk hT rfl rfl ?_
 refine qUs rfl hmt rfl rfl rfl rfl rfl rfl ?_
 refine wk hT rfl rfl ?_
 refine wk hT rfl rfl ?_
 refine qUs rfl hmt rfl rfl rfl rfl rfl rfl ?_
 refine wk hT rfl rfl ?_
 refine wk hT rfl rfl ?_
 refine qUs rfl hmt rfl rfl rfl rfl rfl rfl ?_
 refine wk hT rfl rfl ?_
 refine wk hT rfl rfl ?_
 refine qUs rfl hmt rfl rfl rfl rfl rfl rfl ?_
 refine wk hT rfl rfl ?_
 refine wk hT rfl rfl ?_
 refine qUs rfl hmt rfl rfl rfl rfl rfl rfl ?_
 refine wws ?_
 refine qAe (lookupV_ok (d:=.int .i64) (n:=132) (g:=149) rfl hmt (by kernel_rfl) rfl rfl rfl (fun n=>rfl) (by simp) (by simp)) rfl ?_
 refine wws ?_
 refine qXd 0 5 rfl rfl ?_
 refine wwn ?_
 refine qAe (qAd (eqFn_ok rfl hfu rfl rfl)) rfl ?_
 refine wwn ?_
 refine qAa rfl (fun c1=>?_) (fun c1=>?_)
 ·exact absurd c1 (by simp)
 refine wwn ?_
 refine qAe (qBn (v:=.agg [.d (.sl 1 (qAg out)),.I 36864]) (H':=[.row D,.opq (qJk b [(44,155),(136,154),(42,153),(134,152),(34,151),(130,150),(132,149),(176,148),(164,147)]),.row (comCells 0 132 0 0 [] 8),.row [.sl 1 [] .full,.I 0]]) rfl rfl hc [0] (by decide) rfl rfl rfl hlow hlow' rfl rfl) rfl ?_
 refine wwn ?_
 subst hD
 exact wwr
theorem qQm (p:Per) (m0 m1 seed:List UInt8) (pr ur:Int) (pin:List UInt8) (l:List Tp) (day cut:Int) (old:List UInt8) (hs:seed.length≤500000) :
  Spec Tryz.prog 105 [.ptr 0 0,.agg (comCells 0 132 0 0 [] 8)] [.row (maC p m0 m1 seed [] pr ur pin l day cut old)]
   (fun r h'=>r=.agg [.d (.sl 1 (qAg (qCu seed 8))),.I 36864]∧h'=[.row (maC p m0 m1 (qFp seed) (qCu seed 8) pr ur pin l day cut [])]):=by
 have he:=qMi p m0 m1 seed pr ur pin l day cut [] hs
 generalize qCu seed 8=out at he ⊢
 generalize qFp seed=nx at he ⊢
 refine qAb hT Tryz.func105 rfl rfl rfl rfl ?_;intro E hE
 refine wwn ?_
 refine qAa rfl (fun c1=>?_) (fun c1=>?_)
 case' _=>skip
 ·refine wwn ?_
  refine qAa rfl (fun c2=>?_) (fun c2=>?_)
  ·exact absurd c2 (by simp)
  refine wwe ?_
  refine qAl (qAh ?_)
  refine wws ?_
  refine qAs (l:=[(0,.ptr 0 0),(3,.ptr 1 0),(4,.ptr 2 0)]) (h':=[.row (maC p m0 m1 seed [] pr ur pin l day cut []),.row (comCells 0 132 0 0 [] 8),.row [.sl 1 [] .full,.I 0]]) yf ⟨⟨.refl _,.refl _,.refl _,.refl _,.refl _,.refl _,.refl _,.refl _,.refl _,.refl _,.refl _,.refl _,.refl _,.refl _,.refl _,.refl _,.refl _,.refl _,.refl _,.refl _,.refl _,.refl _,.refl _,.refl _,.refl _,.refl _,.refl _,.refl _,.refl _,.refl _,.refl _,.refl _,.refl _,.refl _,.refl _,.refl _,.refl _,.refl _,.refl _,.refl _,.refl _,.refl _,.refl _,.refl _,.refl _,.nils,.refl _,.refl _,.refl _,.refl _,.refl _,.refl _,.refl _,.refl _,.refl _,.refl _,.refl _,.refl _,.refl _,.refl _,.refl _,.refl _,.refl _,.refl _,.refl _,.refl _,.refl _,.refl _,.refl _,.refl _,trivial⟩,ObLe.refl _,ObLe.refl _,trivial⟩ ?_
  refine qAl (qAh ?_)
  refine wws ?_
  refine qAe (qBn (v:=.agg [.d (.sl 1 (qAg out)),.I 36864]) (H':=[.row (maC p m0 m1 nx out pr ur pin l day cut []),.row (comCells 0 132 0 0 [] 8),.row [.sl 1 [] .full,.I 0]]) rfl rfl he [0] (by decide) rfl rfl rfl rfl rfl rfl rfl) rfl ?_
  refine wwn ?_
  exact wwr
 ·exact absurd c1 (by simp)
theorem answerM_spec (p:Per) (m0 m1 seed:List UInt8) (pr ur:Int) (pin:List UInt8) (l:List Tp) (day cut:Int) (old:List UInt8) (hs:seed.length≤500000) :
  Spec Tryz.prog 61 [.ptr 0 0,.agg (comCells 0 132 0 0 [] 8)] [.row (maC p m0 m1 seed [] pr ur pin l day cut old)]
   (fun r h'=>r=.agg [.d (.sl 1 (qAg (qCu seed 8))),.I 36864]∧h'=[.row (maC p m0 m1 (qFp seed) (qCu seed 8) pr ur pin l day cut [])]):=by
 have hc:=qQm p m0 m1 seed pr ur pin l day cut old hs
 have hv:=cmdValid_spec
 generalize qCu seed 8=out at hc ⊢
 generalize qFp seed=nx at hc ⊢
 refine qAb hT Tryz.func61 rfl rfl rfl rfl ?_;intro E hE
 refine wwn ?_
 refine wwc hv ?_
 refine wwn ?_
 refine qAa rfl (fun c1=>?_) (fun c1=>?_)
 ·exact absurd c1 (by simp)
 refine wwn ?_
 refine qAa rfl (fun c2=>?_) (fun c2=>?_)
 ·refine wwn ?_
  refine qAa rfl (fun c3=>?_) (fun c3=>?_)
  ·exact absurd c3 (by decide)
  refine wwn ?_
  refine qAe (qBn (v:=.agg [.d (.sl 1 (qAg out)),.I 36864]) (H':=[.row (maC p m0 m1 nx out pr ur pin l day cut []),.row [.ptr 0 0],.row (comCells 0 132 0 0 [] 8),.row [.sl 1 [] .full,.I 0]]) rfl rfl hc [0] (by decide) rfl rfl rfl rfl rfl rfl rfl) rfl ?_
  refine wwn ?_
  exact wwr
 ·exact absurd c2 (by simp)
theorem readOn_spec (b r:List UInt8) (hb:b.length=265) (h0:b.getD 0 0=1) (hn:(b.drop 1).take 6=qBr 6 0) (hs:nbN ((b.drop 7).take 2)=r.length) (hr:r.length≤256) (hd:(b.drop 9).take r.length=r) :
  Spec Tryz.prog 128 [.d (.sl 1 (qAg b))] [] (fun v h'=>v=.tup [.agg [.I 0,.d (.sl 1 (qAg r))],.d (.bool true)]∧h'=[]):=by
 have hl:=encB_length b
 have e0:(qAg b)[((0:Int)).toNat]?=some [.int .u8 1]:=by
  have:=encB_getD (b:=b) (i:=0) (by omega)
  rw [h0] at this
  exact this
 have hN1:=qDu ((b.drop 1).take 6) (by rw [List.length_take];omega)
 have o1:qUn ((b.drop 1).take 6)=(0,0):=by rw [hn];decide
 rw [o1] at hN1
 have hN2:=qDu ((b.drop 7).take 2) (by rw [List.length_take];omega)
 have o2:qUn ((b.drop 7).take 2)=((r.length:Int),0):=by unfold qUn;rw [if_neg (by rw [List.length_take];omega),hs]
 rw [o2] at hN2
 simp only at hN1 hN2
 have g1:qHx (qAg b) (1:Int) (7:Int)=qAg ((b.drop 1).take 6):=by unfold qHx;rw [encB_drop,encB_take];rfl
 have g2:qHx (qAg b) (7:Int) (9:Int)=qAg ((b.drop 7).take 2):=by unfold qHx;rw [encB_drop,encB_take];rfl
 have w9:IntKind.i64.wrap (9+(r.length:Int))=((9+r.length:Nat):Int):=by rw [qAj (by omega)];simp
 have g3:qHx (qAg b) (9:Int) ((9+r.length:Nat):Int)=qAg r:=by
  unfold qHx
  rw [encB_drop,encB_take]
  show qAg ((b.drop 9).take (9+r.length-9))=_
  rw [Nat.add_sub_cancel_left,hd]
 have hcl:=qIy (qAg r) (by rw [encB_length];omega)
 generalize (b.drop 1).take 6=v1 at *
 generalize (b.drop 7).take 2=v2 at *
 refine qAb hT Tryz.func128 rfl rfl rfl rfl ?_;intro E hE
 refine ww ?_
 refine wwgi e0 ?_
 refine ww ?_
 refine qAa rfl (fun c1=>?_) (fun c1=>?_)
 ·rw [hl,hb] at c1
  exact absurd c1 (by simp)
 refine ww ?_
 rw [g1]
 refine ww ?_
 refine wwc hN1 ?_
 refine ww ?_
 rw [g2]
 refine ww ?_
 refine wwc hN2 ?_
 refine ww ?_
 refine qAa rfl (fun c2=>?_) (fun c2=>?_)
 ·simp at c2;omega
 refine ww ?_
 rw [w9]
 refine ww ?_
 rw [g3]
 refine ww ?_
 refine wwc hcl ?_
 refine ww ?_
 exact wwr
theorem readOff_spec (b:List UInt8) (hb:b.length=265) (h0:b.getD 0 0=0):Spec Tryz.prog 128 [.d (.sl 1 (qAg b))] [] (fun v h'=>v=.tup [.agg [.I 0,.d (.sl 1 [])],.d (.bool false)]∧h'=[]):=by
 have hl:=encB_length b
 have e0:(qAg b)[((0:Int)).toNat]?=some [.int .u8 0]:=by
  have:=encB_getD (b:=b) (i:=0) (by omega)
  rw [h0] at this
  exact this
 refine qAb hT Tryz.func128 rfl rfl rfl rfl ?_;intro E hE
 refine ww ?_
 refine wwgi e0 ?_
 refine ww ?_
 refine qAa rfl (fun c1=>?_) (fun c1=>?_)
 ·refine ww ?_
  exact wwr
 ·rw [hl,hb] at c1
  exact absurd c1 (by simp)
theorem imageB_facts (r:List UInt8) (hr:r.length≤256):(qBv 0 r).length=265∧(qBv 0 r).getD 0 0=1∧((qBv 0 r).drop 1).take 6=qBr 6 0∧nbN (((qBv 0 r).drop 7).take 2)=r.length∧((qBv 0 r).drop 9).take r.length=r:=by
 unfold qBv
 have l6:=octB_length 6 0
 have l2:=octB_length 2 r.length
 have e1:(1::(qBr 6 0++qBr 2 r.length++r++List.replicate (256-r.length) (0:UInt8))).drop 1=qBr 6 0++(qBr 2 r.length++(r++List.replicate (256-r.length) 0)):=by simp
 have e7:(1::(qBr 6 0++qBr 2 r.length++r++List.replicate (256-r.length) (0:UInt8))).drop 7=qBr 2 r.length++(r++List.replicate (256-r.length) 0):=by
  rw [show (7:Nat)=1+6 from rfl,← List.drop_drop,e1]
  exact List.drop_left' l6
 have e9:(1::(qBr 6 0++qBr 2 r.length++r++List.replicate (256-r.length) (0:UInt8))).drop 9=r++List.replicate (256-r.length) 0:=by
  rw [show (9:Nat)=7+2 from rfl,← List.drop_drop,e7]
  exact List.drop_left' l2
 refine ⟨by simp [l6,l2];omega,rfl,by rw [e1];exact List.take_left' l6,?_,by rw [e9];exact List.take_left⟩
 rw [e7,List.take_left' l2]
 show nbV (qBr 2 r.length)=r.length
 rw [octB_succ,octB_succ,show qBr 0 r.length=[] from rfl]
 show nbV [_,_]=_
 rw [qZb]
 simp only [UInt8.toNat_ofNat']
 omega
theorem zeros_facts:(List.replicate 265 (0:UInt8)).length=265∧(List.replicate 265 (0:UInt8)).getD 0 0=0:=⟨List.length_replicate,rfl⟩
theorem qPt (r:List UInt8) (hr:r.length≤256):Spec Tryz.prog 128 [.d (.sl 1 (qAg (qBv 0 r)))] [] (fun v h'=>v=.tup [.agg [.I 0,.d (.sl 1 (qAg r))],.d (.bool true)]∧h'=[]):=by
 obtain ⟨h1,h2,h3,h4,h5⟩:=imageB_facts r hr
 exact readOn_spec _ r h1 h2 h3 h4 hr h5
theorem qNs (m0 m1 r:List UInt8) (hm:m0=qBv 0 r) (hz:m1=List.replicate 265 0) (hr:r.length≤256) :
  Spec Tryz.prog 97 [.agg [.d (.sl 1 (qAg m0)),.d (.sl 1 (qAg m1))]] [] (fun v h'=>v=.tup [.I 0,.agg [.I 0,.d (.sl 1 (qAg r))],.d (.bool true)]∧h'=[]):=by
 have h1:=qPt r hr
 have h2:=readOff_spec (List.replicate 265 (0:UInt8)) zeros_facts.1 zeros_facts.2
 rw [← hm] at h1
 rw [← hz] at h2
 clear hm hz
 refine qAb hT Tryz.func97 rfl rfl rfl rfl ?_;intro E hE
 refine ww ?_
 first | refine qAe (qAd (arrPtr_ok hT rfl rfl rfl rfl (by decide))) rfl ?_ | refine qBh (qAd (arrPtr_ok hT rfl rfl rfl rfl (by decide))) rfl rfl ?_
 refine ww ?_
 refine wwc h1 ?_
 refine ww ?_
 first | refine qAe (qAd (arrPtr_ok hT rfl rfl rfl rfl (by decide))) rfl ?_ | refine qBh (qAd (arrPtr_ok hT rfl rfl rfl rfl (by decide))) rfl rfl ?_
 refine ww ?_
 refine wwc h2 ?_
 refine ww ?_
 refine qAa rfl (fun c1=>?_) (fun c1=>?_)
 ·exact absurd c1 (by simp)
 refine wwn ?_
 refine qDg (fun i=>bif Nat.beq i 0 then [2] else bif Nat.beq i 3 then [1] else []) (fun i=>bif Nat.beq i 3 then [1] else []) mixed (by kernel_rfl) ?_
 refine wwg ?_
 refine ww ?_
 exact wwr
theorem qQa (m0 m1 r:List UInt8) (hm:m0=qBv 0 r) (hz:m1=List.replicate 265 0) (hr:r.length≤256) :
  Spec Tryz.prog 56 [.agg [.d (.sl 1 (qAg m0)),.d (.sl 1 (qAg m1))]] [] (fun v h'=>v=.tup [.d (.sl 1 (qAg r)),.I 0]∧h'=[]):=by
 have h1:=qNs m0 m1 r hm hz hr
 clear hm hz
 refine qAb hT Tryz.func56 rfl rfl rfl rfl ?_;intro E hE
 refine ww ?_
 refine wwc h1 ?_
 refine ww ?_
 refine qAa rfl (fun c1=>?_) (fun c1=>?_)
 ·exact absurd c1 (by simp)
 refine ww ?_
 exact wwr
theorem qMe (p:Per) (m0 m1 seed:List UInt8) (on:Bool) (pa pf:Int) (nonce r:List UInt8) (hm:m0=qBv 0 r) (hz:m1=List.replicate 265 0) (hr:r.length≤256) :
  Spec Tryz.prog 24 [.agg (chG p m0 m1 seed on pa pf nonce)] [] (fun v h'=>v=qTy (qGs r)∧h'=[]):=by
 have h1:=qQa m0 m1 r hm hz hr
 have h2:=decRc_spec r (by omega)
 clear hm hz
 generalize qGs r=o at h2 ⊢
 cases o with
 | none =>
  simp only [qTy] at h2 ⊢
  refine qAb hT Tryz.func24 rfl rfl rfl rfl ?_;intro E hE
  refine qAi ?_
  refine qAl (qAh ?_)
  refine qAe (boxAt_ok (i0:=0) (cs:=chG p m0 m1 seed on pa pf nonce) rfl rfl rfl) rfl ?_
  refine ww ?_
  refine wwc h1 ?_
  refine ww ?_
  refine qAa rfl (fun c1=>?_) (fun c1=>?_)
  ·exact absurd c1 (by simp)
  refine ww ?_
  refine wwc h2 ?_
  refine ww ?_
  exact wwr
 | some w =>
  obtain ⟨pr,ur,pin,l,day⟩:=w
  simp only [qTy] at h2 ⊢
  refine qAb hT Tryz.func24 rfl rfl rfl rfl ?_;intro E hE
  refine qAi ?_
  refine qAl (qAh ?_)
  refine qAe (boxAt_ok (i0:=0) (cs:=chG p m0 m1 seed on pa pf nonce) rfl rfl rfl) rfl ?_
  refine ww ?_
  refine wwc h1 ?_
  refine ww ?_
  refine qAa rfl (fun c1=>?_) (fun c1=>?_)
  ·exact absurd c1 (by simp)
  refine ww ?_
  refine wwc h2 ?_
  refine ww ?_
  exact wwr
theorem qGq (b:List UInt8) (hb:b.length=265):Spec Tryz.prog 99 [.d (.sl 1 (qAg b))] [] (fun v h'=>v=.I ((nbN ((b.drop 7).take 2):Nat):Int)∧h'=[]):=by
 have e7:(qAg b)[((7:Int)).toNat]?=some [.int .u8 ((b.getD 7 0).toNat:Int)]:=encB_getD (by omega)
 have e8:(qAg b)[((8:Int)).toNat]?=some [.int .u8 ((b.getD 8 0).toNat:Int)]:=encB_getD (by omega)
 have ht:(b.drop 7).take 2=[b.getD 7 0,b.getD 8 0]:=by
  rw [List.drop_eq_getElem_cons (by omega),List.drop_eq_getElem_cons (by omega),List.getD_eq_getElem?_getD,List.getElem?_eq_getElem (by omega),List.getD_eq_getElem?_getD,List.getElem?_eq_getElem (by omega)];rfl
 have hv:nbN ((b.drop 7).take 2)=256*(b.getD 7 0).toNat+(b.getD 8 0).toNat:=by rw [ht];exact qZb _ _
 have k7:=(b.getD 7 0).toNat_lt
 have k8:=(b.getD 8 0).toNat_lt
 rw [hv]
 generalize (b.getD 7 0).toNat=x7 at *
 generalize (b.getD 8 0).toNat=x8 at *
 refine qAb hT Tryz.func99 rfl rfl rfl rfl ?_;intro E hE
 refine ww ?_
 refine wwi e7 ?_
 refine ww ?_
 refine wwi e8 ?_
 refine ww ?_
 refine rq ⟨rfl,rfl⟩ rfl (.int ?_)
 rw [qAj (n:=(x7:Int)) (by omega),qAj (n:=(x8:Int)) (by omega),qAj (n:=256*(x7:Int)) (by omega),qAj (by omega)]
 omega
theorem compOn_spec (b r:List UInt8) (hb:b.length=265) (h0:b.getD 0 0=1) (hs:nbN ((b.drop 7).take 2)=r.length) (hr:r.length≤256):Spec Tryz.prog 129 [.d (.sl 1 (qAg b))] [] (fun v h'=>v=.d (.bool true)∧h'=[]):=by
 have hl:=encB_length b
 have e0:(qAg b)[((0:Int)).toNat]?=some [.int .u8 1]:=by
  have:=encB_getD (b:=b) (i:=0) (by omega)
  rw [h0] at this
  exact this
 have h1:=qGq b hb
 rw [hs] at h1
 refine qAb hT Tryz.func129 rfl rfl rfl rfl ?_;intro E hE
 refine ww ?_
 refine wwgi e0 ?_
 refine ww ?_
 refine wwgc h1 ?_
 refine ww ?_
 refine rq ⟨rfl,rfl⟩ rfl (.bool ?_)
 rw [hl,hb]
 simp
 omega
theorem compOff_spec (b:List UInt8) (hb:b.length=265) (h0:b.getD 0 0=0):Spec Tryz.prog 129 [.d (.sl 1 (qAg b))] [] (fun v h'=>v=.d (.bool false)∧h'=[]):=by
 have hl:=encB_length b
 have e0:(qAg b)[((0:Int)).toNat]?=some [.int .u8 0]:=by
  have:=encB_getD (b:=b) (i:=0) (by omega)
  rw [h0] at this
  exact this
 have h1:=qGq b hb
 refine qAb hT Tryz.func129 rfl rfl rfl rfl ?_;intro E hE
 refine ww ?_
 refine wwgi e0 ?_
 refine ww ?_
 refine wwgc h1 ?_
 refine ww ?_
 refine rq ⟨rfl,rfl⟩ rfl (.bool ?_)
 rw [hl,hb]
 simp
def maB (p:Per) (m0 m1:List UInt8) (pr ur:Int) (pin:List UInt8) (l:List Tp) (day cut:Int):List AV :=
 chG p m0 m1 p.seed true (-1) (-1) []++(qEa pr ur pin l day++[.I cut,.I 0,.d (.bool false),.d (.bool false),.sl 1 [] .full])
theorem maB_le (p:Per) (m0 m1:List UInt8) (pr ur:Int) (pin:List UInt8) (l:List Tp) (day cut:Int):AllLe (maB p m0 m1 pr ur pin l day cut) (maC p m0 m1 p.seed [] pr ur pin l day cut []):=by
 unfold maB maC
 exact ⟨.refl _,.refl _,.refl _,.refl _,.refl _,.refl _,.refl _,.refl _,.refl _,.refl _,.refl _,.refl _,.refl _,.refl _,.refl _,.refl _,.refl _,.refl _,.refl _,.refl _,.refl _,.refl _,.refl _,.refl _,.refl _,.refl _,.refl _,.refl _,.refl _,.refl _,.refl _,.refl _,.refl _,.refl _,.refl _,.refl _,.refl _,.refl _,.refl _,.refl _,.refl _,.refl _,.refl _,.refl _,.refl _,.refl _,.refl _,.refl _,.refl _,.refl _,.refl _,.refl _,.refl _,.refl _,.refl _,.refl _,.refl _,.refl _,.refl _,.refl _,.refl _,.refl _,.refl _,.refl _,.refl _,.refl _,.refl _,.refl _,.refl _,.dat,trivial⟩
theorem qWl (p:Per) (m0 m1:List UInt8) (pr ur:Int) (pin:List UInt8) (l:List Tp) (day cut:Int) :
  qHf T 121 [(0,.agg (chG p m0 m1 p.seed true (-1) (-1) [])),(1,.agg (qEa pr ur pin l day)),(2,.I cut)]=some (.agg (maB p m0 m1 pr ur pin l day cut)):=by
 kernel_rfl
theorem qYc (p:Per) (m0 m1 seed nonce:List UInt8) (pr ur:Int) (pin:List UInt8) (l:List Tp) (day cut:Int) (old:List UInt8):qGp T 71 (maC p m0 m1 seed nonce pr ur pin l day cut old) 0=some (.agg (chG p m0 m1 seed true (-1) (-1) nonce)):=by
 refine loadA_agg tiC_find rfl ?_ ?_
 ·show 0+60≤70
  omega
 ·unfold maC
  exact List.take_left' rfl
theorem qOb (p:Per) (hp:PerLen p) (m0 m1 r:List UInt8) (pr ur:Int) (pin:List UInt8) (l:List Tp) (day:Int) (hm:m0=qBv 0 r) (hz:m1=List.replicate 265 0) (hr:r.length≤256) (hd:qGs r=some (pr,ur,pin,l,day)) (hs:p.seed.length≤500000) :
  Spec Tryz.prog 29 [.agg (chG p m0 m1 p.seed true (-1) (-1) []),.agg (comCells 0 132 0 0 [] 8),.I (-1)] []
   (fun v h'=>v=.tup [.agg (chG p m0 m1 (qFp p.seed) true (-1) (-1) (qCu p.seed 8)),.agg [.d (.sl 1 (qAg (qCu p.seed 8))),.I 36864],.d (.bool true)]∧h'=[]):=by
 have hk:=qMe p m0 m1 p.seed true (-1) (-1) [] r hm hz hr
 rw [hd] at hk
 simp only [qTy] at hk
 have hcl:=qJx p hp m0 m1 true (-1) (-1) [] (by rw [hm,(imageB_facts r hr).1];omega) (by rw [hz,zeros_facts.1];omega) (by simp)
 have ha:=answerM_spec p m0 m1 p.seed pr ur pin l day (-1) [] hs
 have hB:=qWl p m0 m1 pr ur pin l day (-1)
 have hBle:=maB_le p m0 m1 pr ur pin l day (-1)
 generalize qCu p.seed 8=out at ha ⊢
 generalize qFp p.seed=nx at ha ⊢
 clear hm hz hr hd hs hp
 refine qAb hT Tryz.func29 rfl rfl rfl rfl ?_;intro E hE
 refine qAi (qAi (qAi ?_))
 refine qAl (qAh ?_)
 refine qAe (boxAt_ok (i0:=0) (cs:=chG p m0 m1 p.seed true (-1) (-1) []) rfl rfl rfl) rfl ?_
 refine wk hT rfl rfl ?_
 refine qAe (allocAt_ok (i0:=1) (i:=tiC) hT rfl tiC_find rfl) rfl ?_
 refine wws ?_
 refine qAl (qAh ?_)
 refine qAe (qBg (i:=0) (off:=0) hT rfl rfl rfl (L60 (C:=chG p m0 m1 p.seed true (-1) (-1) []) rfl)) rfl ?_
 refine wwc hk ?_
 refine wws ?_
 refine wwn ?_
 refine qAa rfl (fun c1=>?_) (fun c1=>?_)
 ·exact absurd c1 (by simp)
 refine wwe ?_
 refine qAl ?_
 refine qDg (fun i=>bif Nat.beq i 0 then [0] else bif Nat.beq i 2 then [5] else bif Nat.beq i 5 then [2] else []) (fun i=>bif Nat.beq i 5 then [2] else []) mixed (by kernel_rfl) ?_
 refine qAm (os:=[]) (fun k hk1 hk2=>qBg (i:=0) (off:=0) hT rfl rfl ((hk2 0 List.mem_cons_self).trans rfl) (L60 (C:=chG p m0 m1 p.seed true (-1) (-1) []) rfl)) rfl ?_
 refine qAm (os:=[]) (fun k hk1 hk2=>qFt rfl rfl hcl rfl rfl rfl) rfl ?_
 refine qLg hT rfl rfl rfl rfl (by first | exact List.mem_cons_self | exact sm) rfl ?_
 refine qEw hT (fun _=>rfl) rfl rfl True.intro ?_
 refine qAm (os:=[]) (fun k hk1 hk2=>qAd (qDe hT rfl hB)) rfl ?_
 refine qAm (v:=.ptr 2 0) (os:=[.row (maB p m0 m1 pr ur pin l day (-1))]) (fun k hk1 hk2=>boxAt_ok (i0:=2) (cs:=maB p m0 m1 pr ur pin l day (-1)) rfl rfl ((hk2 2 List.mem_cons_self).trans rfl)) rfl ?_
 refine qEw hT (fun _=>rfl) rfl rfl True.intro ?_
 refine qGu ?_
 refine qAs (l:=[(2,.I (-1)),(4,.ptr 3 0),(6,.ptr 1 0),(7,.ptr 4 0),(11,.ptr 2 0)]) (h':=[.dead,.row tiC.zero,.row (maC p m0 m1 p.seed [] pr ur pin l day (-1) []),.row (comCells 0 132 0 0 [] 8),.row [.sl 1 [] .full,.I 0],.dead]) yf ⟨trivial,ObLe.refl _,hBle,ObLe.refl _,ObLe.refl _,trivial,trivial⟩ ?_
 refine qAl (qAh ?_)
 refine wk hT rfl rfl ?_
 refine wk hT rfl rfl ?_
 refine qAe (qBn (v:=.agg [.d (.sl 1 (qAg out)),.I 36864]) (H':=[.dead,.row tiC.zero,.row (maC p m0 m1 nx out pr ur pin l day (-1) []),.row (comCells 0 132 0 0 [] 8),.row [.sl 1 [] .full,.I 0],.dead]) rfl rfl ha [2] (by decide) rfl rfl rfl rfl rfl rfl rfl) rfl ?_
 refine wws ?_
 refine wwn ?_
 refine qAa rfl (fun c2=>?_) (fun c2=>?_)
 ·exact absurd c2 (by simp)
 refine wwe ?_
 refine qAl ?_
 refine qDg (fun i=>bif Nat.beq i 3 then [2] else bif Nat.beq i 4 then [6] else bif Nat.beq i 5 then [1] else bif Nat.beq i 6 then [4] else []) (fun i=>bif Nat.beq i 5 then [1] else bif Nat.beq i 6 then [4] else []) mixed (by kernel_rfl) ?_
 refine qEw hT (fun _=>rfl) rfl rfl True.intro ?_
 refine qEw hT (fun _=>rfl) rfl rfl True.intro ?_
 refine qEw hT (fun _=>rfl) rfl rfl True.intro ?_
 refine qAm (v:=.agg (chG p m0 m1 nx true (-1) (-1) out)) (os:=[]) (fun k hk1 hk2=>qBg (i:=2) (off:=0) hT rfl rfl ((hk2 2 List.mem_cons_self).trans rfl) (qYc p m0 m1 nx out pr ur pin l day (-1) [])) rfl ?_
 refine qLg hT rfl rfl rfl rfl (by first | exact List.mem_cons_self | exact sm) rfl ?_
 refine qAm (v:=.any) (os:=[.row (chG p m0 m1 nx true (-1) (-1) out)]) (fun k hk1 hk2=>qAz (i:=1) (off:=0) hT rfl rfl ((hk2 1 List.mem_cons_self).trans rfl) (S60 (C:=chG p m0 m1 nx true (-1) (-1) out) rfl rfl)) rfl ?_
 refine wwg ?_
 refine wwn ?_
 exact wwr
theorem perE_valid:qCi perE=0:=by kernel_rfl
theorem perE_rec:(qJj perE.pr perE.ur perE.pin perE.tps perE.tday).2=0:=by kernel_rfl
theorem qMn:Spec Tryz.prog 6 [] [] (fun r h'=>r=.d (.bool true)∧h'=[]):=by
 have hR:=Spec.args (args:=[.nils]) (by exact ⟨AV.le.nils,trivial⟩) (qMt [] (by simp))
 have hM:=makeNil_spec
 obtain ⟨t,ht1,ht2⟩:=perE_ok.tps
 have hN:=Spec.args (args:=[.agg (qUg perE)]) (by exact ⟨perT_le perE,trivial⟩) (newP_spec perE perE_ok.len (fun t' h=>by rw [ht1] at h;rw [List.mem_singleton.1 h];omega))
 have hrec:=recF_back perE_rec
 have hrl:=recF_len (pr:=perE.pr) (ur:=perE.ur) (pin:=perE.pin) (l:=perE.tps) (day:=perE.tday)
 rw [perE_valid] at hN
 unfold qWj at hN
 rw [if_pos perE_valid] at hN
 obtain ⟨m0,hm0⟩:∃ m,m=mem0 perE:=⟨_,rfl⟩
 obtain ⟨m1,hm1⟩:∃ m,m=List.replicate 265 (0:UInt8):=⟨_,rfl⟩
 rw [← hm0,← hm1] at hN
 have hl0:m0.length=265:=by rw [hm0];exact (imageB_facts _ (by omega)).1
 have hP:=powerC_spec perE perE_ok.len m0 m1 false 0 0 [] (by omega) (by rw [hm1];simp) (by simp)
 have hA:=Spec.args (args:=[.agg (chG perE m0 m1 perE.seed true (-1) (-1) []),.agg [.I 0,.I 132,.I 0,.I 0,.sl 1 [] .full,.I 8],.I (-1)])
  (by exact ⟨.refl _,AV.le.agg ⟨.refl _,.refl _,.refl _,.refl _,.dat,.refl _,trivial⟩,.refl _,trivial⟩) (qOb perE perE_ok.len m0 m1 _ _ _ _ _ _ hm0 hm1 (by omega) hrec (by have:=perE_ok.sd;omega))
 have hdl:(qCu perE.seed 8).length=8:=by kernel_rfl
 have hS:=qBi (qCu perE.seed 8) (by omega)
 generalize qCu perE.seed 8=dr at hA hdl hS
 generalize qFp perE.seed=nx at hA
 generalize perE.seed=sd at hN hP hA
 clear hrec hrl hm0 hm1 ht1
 generalize perE=p at hN hP hA hM
 refine qAb hT Tryz.func6 rfl rfl rfl rfl ?_;intro E hE
 refine qAi (qAi (qAi (qAi ?_)))
 refine qAl (qAh ?_)
 refine wws ?_
 refine qAl (qAh ?_)
 refine qAe (qBn (v:=.ptr 0 0) (H':=[.row (qAk [] 0),.room,.room,.room]) rfl rfl hR [0] (by decide) rfl rfl rfl rfl rfl rfl rfl) rfl ?_
 refine qAe (qBn (v:=.agg (qUg p)) (H':=[.row (qAk [] 0),.room,.room,.room]) rfl rfl hM [0] (by decide) rfl rfl rfl rfl rfl rfl rfl) rfl ?_
 refine qAe (allocAt_ok (i0:=1) (i:=(T.find 50).getD ⟨.str,0,0,[]⟩) hT rfl rfl rfl) rfl ?_
 refine qBb (qAz (i:=1) (off:=0) hT rfl rfl rfl (S16 (C:=qUg p) rfl rfl)) (forceS_eq _ _) ?_
 refine qBm ?_
 refine qAl (qAh ?_)
 refine qAe (qBg (i:=1) (off:=0) hT rfl rfl rfl (L16 (C:=qUg p) rfl)) rfl ?_
 refine wwc hN ?_
 refine wk hT rfl rfl ?_
 refine wk hT rfl rfl ?_
 refine wk hT rfl rfl ?_
 refine qAe (allocAt_ok (i0:=2) (i:=tiC) hT rfl tiC_find rfl) rfl ?_
 refine qBb (qAz (i:=2) (off:=0) hT rfl rfl rfl (S60 (C:=chG p m0 m1 sd false 0 0 []) rfl rfl)) (forceS_eq _ _) ?_
 refine wws ?_
 refine qAs (l:=[(2,.ptr 2 0),(3,.I 0)]) (h':=[.row (qAk [] 0),.dead,.row (chG p m0 m1 sd false 0 0 []),.room]) yf ⟨ObLe.refl _,trivial,ObLe.refl _,ObLe.refl _,trivial⟩ ?_
 refine qAl (qAh ?_)
 refine qAe (qBg (i:=2) (off:=0) hT rfl rfl rfl (L60 (C:=chG p m0 m1 sd false 0 0 []) rfl)) rfl ?_
 refine wwc hP ?_
 refine wk hT rfl rfl ?_
 refine wwc hA ?_
 refine wk hT rfl rfl ?_
 refine wk hT rfl rfl ?_
 refine wk hT rfl rfl ?_
 refine wk hT rfl rfl ?_
 refine qAe (allocAt_ok (i0:=3) (i:=(T.find 81).getD ⟨.str,0,0,[]⟩) hT rfl rfl rfl) rfl ?_
 refine qBb (qAz (i:=2) (off:=0) hT rfl rfl rfl (S60 (C:=chG p m0 m1 nx true (-1) (-1) dr) rfl rfl)) (forceS_eq _ _) ?_
 refine wws ?_
 refine qAs (l:=[(2,.ptr 2 0),(3,.I 0),(4,.ptr 3 0),(5,.d (.bool true))]) (h':=[.row (qAk [] 0),.dead,.row (chG p m0 m1 nx true (-1) (-1) dr),.row [.d (.sl 1 (qAg dr)),.I 36864]]) yf ⟨ObLe.refl _,trivial,ObLe.refl _,ObLe.refl _,trivial⟩ ?_
 clear hN hP hA hM hR
 have hel:=encB_length dr
 refine wwn ?_
 rw [show ((0:Int) == 0)=true from rfl]
 refine qBs hT rfl rfl (fun _=>rfl) ?_
 refine wwn ?_
 refine qBs hT rfl rfl (fun _=>rfl) ?_
 refine wwn ?_
 rw [show ((qAg dr).length:Int)=8 by omega]
 refine qBs hT rfl rfl (fun _=>rfl) ?_
 refine wwn ?_
 refine qBs hT rfl rfl (fun _=>rfl) ?_
 refine wwn ?_
 refine wwgc hS ?_
 refine qBs hT rfl rfl (fun _=>rfl) ?_
 refine wwn ?_
 exact qCy ⟨rfl,rfl⟩ rfl (.bool (by decide)) rfl rfl rfl rfl
theorem qAo (L:List Int) (hL:L.length≤1000000) (a:Nat) (ha:a≤L.length):∃ (x:Int→Int) (b:Nat),nxV L a=x∧nxA L a=b∧b≤L.length∧(∀ n,1≤n→0≤x n∧x n < n) ∧
  ∀ n,1≤n→n≤4611686018427387904→Spec Tryz.prog 30 [.ptr 0 0,.I n] [.row (qAk L a)] (fun r h'=>r=.I (x n)∧h'=[.row (qAk L b)]) :=
 ⟨_,_,rfl,rfl,nxA_le ha,fun n h=>nxV_range h,fun n h1 h2=>qAq L hL a ha n h1 h2⟩
def pkI (T:List Int) (x:Int):Int:=T.getD x.toNat 0
theorem pkI_at {T:List Int} {x:Int} (h:0≤x∧x < (T.length:Int)):(T.map fun s=>[Dat.int .i64 s])[x.toNat]?=some [.int .i64 (pkI T x)]:=by
 have hl:x.toNat < T.length:=by omega
 simp [pkI,hl]
theorem pkI_mem {T:List Int} {x:Int} (h:0≤x∧x < (T.length:Int)):pkI T x∈T:=by
 have hl:x.toNat < T.length:=by omega
 have:pkI T x=T[x.toNat]:=by simp [pkI,hl]
 rw [this];exact List.getElem_mem hl
theorem encB_zeros (n:Nat):List.replicate n [Dat.int .u8 0]=qAg (List.replicate n 0):=by simp [qAg]
theorem qSp {sz:Nat}:∀ {es:List (List Dat)} {i j:Nat} {e:List Dat} {d:Dat},(∀ e,e∈es→e.length=sz)→es[i]?=some e→e[j]?=some d→es.flatten[i*sz+j]?=some d
 | [],i,j,e,d,_,h,_=>by simp at h
 | a::l,0,j,e,d,hs,h,h2=>by
  simp at h;subst h
  have hj:=(List.getElem?_eq_some_iff.1 h2).1
  rw [List.flatten_cons,Nat.zero_mul,Nat.zero_add,List.getElem?_append_left hj];exact h2
 | a::l,i+1,j,e,d,hs,h,h2=>by
  have ha:=hs a (by simp)
  have:=qSp (es:=l) (i:=i) (fun e he=>hs e (by simp [he])) (by simpa using h) h2
  rw [List.flatten_cons,List.getElem?_append_right (by rw [ha,Nat.succ_mul];omega),ha,show (i+1)*sz+j-sz=i*sz+j by rw [Nat.succ_mul];omega]
  exact this
theorem qIw {sz:Nat} {es:List (List Dat)} (hs:∀ e,e∈es→e.length=sz):RowDat (qAu es) 0 sz es :=
 ⟨hs,fun i e j d h1 h2=>⟨.d d,by unfold qAu;rw [Nat.zero_add,List.getElem?_map,qSp hs h1 h2];rfl,rfl⟩⟩
theorem flatAV_append (a b:List (List Dat)):qAu (a++b)=qAu a++qAu b:=by simp [qAu]
theorem qCg {cells:List AV} {sz:Nat} {es:List (List Dat)} (hs:∀ e,e∈es→e.length=sz) (h:cells=qAu es):RowDat cells 0 sz es:=by subst h;exact qIw hs
theorem qOz {α:Type} {sz j:Nat} (x:α) (hj:j < sz):∀ {es:List (List α)} {k:Nat} {e:List α},(∀ e,e∈es→e.length=sz)→es[k]?=some e→es.flatten.set (k*sz+j) x=(es.set k (e.set j x)).flatten
 | [],k,e,_,h=>by simp at h
 | a::l,0,e,hs,h=>by
  simp at h;subst h
  have ha:=hs a (by simp)
  rw [List.flatten_cons,Nat.zero_mul,Nat.zero_add,List.set_append_left _ _ (by omega)]
  rfl
 | a::l,k+1,e,hs,h=>by
  have ha:=hs a (by simp)
  have:=qOz x hj (es:=l) (k:=k) (e:=e) (fun e he=>hs e (by simp [he])) (by simpa using h)
  rw [List.flatten_cons,List.set_append_right _ _ (by rw [ha,Nat.succ_mul];omega),ha,show (k+1)*sz+j-sz=k*sz+j by rw [Nat.succ_mul];omega,this]
  rfl
theorem qPa {α:Type} {sz:Nat}:∀ {es:List (List α)} {k:Nat} {e:List α},(∀ e,e∈es→e.length=sz)→es[k]?=some e→(es.flatten.drop (k*sz)).take sz=e
 | [],k,e,_,h=>by simp at h
 | a::l,0,e,hs,h=>by
  simp at h;subst h
  have ha:=hs a (by simp)
  rw [List.flatten_cons,Nat.zero_mul,List.drop_zero,List.take_append_of_le_length (by omega),List.take_of_length_le (by omega)]
 | a::l,k+1,e,hs,h=>by
  have ha:=hs a (by simp)
  rw [List.flatten_cons,show (k+1)*sz=a.length+k*sz by rw [Nat.succ_mul];omega,List.drop_append,List.drop_of_length_le (by omega),List.nil_append,show a.length+k*sz-a.length=k*sz by omega]
  exact qPa (es:=l) (k:=k) (fun e he=>hs e (by simp [he])) (by simpa using h)
theorem flatAV_set {sz j k:Nat} {es:List (List Dat)} {e:List Dat} (x:Dat) (hj:j < sz) (hs:∀ e,e∈es→e.length=sz) (h:es[k]?=some e):(qAu es).set (k*sz+j) (.d x)=qAu (es.set k (e.set j x)):=by
 unfold qAu
 rw [← qOz x hj hs h,List.map_set]
theorem flatAV_cut {sz k:Nat} {es:List (List Dat)} {e:List Dat} (hs:∀ e,e∈es→e.length=sz) (h:es[k]?=some e):((qAu es).drop (k*sz)).take sz=e.map .d:=by
 unfold qAu
 rw [← qPa hs h,List.map_take,List.map_drop]
theorem encFs_size (l:List Inf):∀ e,e∈qAt l→e.length=5:=fun e he=>by
 obtain ⟨x,_,rfl⟩:=List.mem_map.1 he;rfl
theorem encFs_get {l:List Inf} {k:Nat} {d:Inf} (h:l[k]?=some d):(qAt l)[k]?=some (qTz d):=by unfold qAt;rw [List.getElem?_map,h];rfl
theorem encFs_set (l:List Inf) (k:Nat) (d:Inf):(qAt l).set k (qTz d)=qAt (l.set k d):=by unfold qAt;rw [List.map_set]
theorem encFs_flat (l:List Inf):(qAu (qAt l)).length=l.length*5:=by rw [flatAV_length (encFs_size l),encFs_length]
def qNe (d:Inf) (k:Nat) (v:Int) (x:Int→Int) (l:List Inf):List Inf :=
 if v=0 then l.set k ⟨x 8,d.ver,d.par,d.key,d.kid⟩
 else if v=1 then l.set k ⟨d.proto,pkI [0,255,256] (x 3),d.par,d.key,d.kid⟩
 else if v=2 then l.set k ⟨d.proto,d.ver,pkI [-1,31,32] (x 3),d.key,d.kid⟩
 else if v=3 then l.set k ⟨d.proto,d.ver,d.par,pkI [0,1,4,2147483575] (x 4),d.kid⟩
 else if v=4 then l.set k ⟨d.proto,d.ver,d.par,d.key,pkI [-1,255,256] (x 3)⟩
 else if v=5 then l++[d]
 else l++List.replicate 18 d
def qKj (L:List Int) (a:Nat) (l:List Inf):List Inf×Nat :=
 if l=[] then ([⟨nxV L a 8,1,0,0,0⟩],nxA L a)
 else (qNe (l.getD (nxV L a (l.length:Int)).toNat ⟨0,0,0,0,0⟩) (nxV L a (l.length:Int)).toNat (nxV L (nxA L a) 7) (nxV L (nxA L (nxA L a))) l,if nxV L (nxA L a) 7≤4 then nxA L (nxA L (nxA L a)) else nxA L (nxA L a))
theorem qLa (L:List Int) (hL:L.length≤1000000) (a:Nat) (ha:a≤L.length) (l:List Inf) (hl:l.length≤50) :
  Spec Tryz.prog 42 [.ptr 0 0,.d (.sl 5 (qAt l))] [.row (qAk L a)] (fun r h'=>r=.d (.sl 5 (qAt (qKj L a l).1))∧h'=[.row (qAk L (qKj L a l).2)]):=by
 have hll:=encFs_length l
 by_cases h0:l=[]
 ·obtain ⟨x,a1,e1,e2,g1,hx,hN⟩:=qAo L hL a ha
  unfold qKj
  rw [if_pos h0,e1,e2]
  clear e1 e2
  subst h0
  have hD:=hN 8 (by omega) (by omega)
  refine qAb hT Tryz.func42 rfl rfl rfl rfl ?_;intro E hE
  refine qAi ?_
  refine ww ?_
  refine qAe (bufApp0_ok (i:=1) hT rfl rfl rfl (.inr rfl) (by intro h;cases h) rfl rfl (by show (qAt []).length*(40+1)≤_;omega)) rfl ?_
  refine ww ?_
  refine qAa rfl (fun c1=>?_) (fun c1=>?_)
  case refine_2=>exact absurd c1 (by decide)
  refine ww ?_
  refine qAe (qAr (H':=[.row (qAk L a1),.buf 5 (qAt []).length (qAu (qAt []))]) rfl rfl hD [0] (by decide) rfl rfl rfl rfl rfl rfl rfl) rfl ?_
  refine ww ?_
  exact rq ⟨rfl,rfl⟩ rfl AV.le.dat
 obtain ⟨m',a1,e1,e2,g1,hm',hN⟩:=qAo L hL a ha
 obtain ⟨v',a2,e3,e4,g2,hv',hN2⟩:=qAo L hL a1 g1
 obtain ⟨x,a3,e5,e6,g3,hx,hN3⟩:=qAo L hL a2 g2
 have hpos:0 < l.length:=List.length_pos_iff.2 h0
 unfold qKj
 rw [if_neg h0,e1,e2,e3,e4,e5,e6]
 clear e1 e2 e3 e4 e5 e6
 have hN1:=hN (l.length:Int) (by omega) (by omega)
 have hv1:=hm' (l.length:Int) (by omega)
 obtain ⟨k,hk⟩:∃ k:Nat,m' (l.length:Int)=(k:Int):=⟨(m' (l.length:Int)).toNat,by omega⟩
 rw [hk] at hN1 hv1 ⊢
 rw [Int.toNat_natCast]
 have hkl:k < l.length:=by omega
 obtain ⟨⟨proto,ver,par,key,kid⟩,hd⟩:∃ d,l[k]?=some d:=⟨l[k],by simp [hkl]⟩
 rw [show l.getD k ⟨0,0,0,0,0⟩=⟨proto,ver,par,key,kid⟩ by simp [hd]]
 have hN2:=hN2 7 (by omega) (by omega)
 have hv7:=hv' 7 (by omega)
 generalize v' 7=v at hN2 hv7 ⊢
 clear hv' hm'
 have hN1:Spec Tryz.prog 30 [.ptr 0 0,.I ((qAt l).length:Int)] [.row (qAk L a)] (fun r h'=>r=.I (k:Int)∧h'=[.row (qAk L a1)]):=by rw [hll];exact hN1
 have hfl:=encFs_flat l
 refine qAb hT Tryz.func42 rfl rfl rfl rfl ?_;intro E hE
 refine qAi ?_
 refine ww ?_
 refine qAe (bufApp0_ok (i:=1) hT rfl rfl rfl (.inr rfl) (by intro h;cases h) rfl rfl (by show (qAt l).length*(40+1)≤_;omega)) rfl ?_
 refine ww ?_
 refine qAa rfl (fun c1=>?_) (fun c1=>?_)
 ·exact absurd c1 (by rw [hll];simp;omega)
 refine ww ?_
 refine qAe (qAr (H':=[.row (qAk L a1),.buf 5 (qAt l).length (qAu (qAt l))]) rfl rfl hN1 [0] (by decide) rfl rfl rfl rfl rfl rfl rfl) rfl ?_
 refine ww ?_
 refine qAe (qAr (H':=[.row (qAk L a2),.buf 5 (qAt l).length (qAu (qAt l))]) rfl rfl hN2 [0] (by decide) rfl rfl rfl rfl rfl rfl rfl) rfl ?_
 refine ww ?_
 refine qAa rfl (fun d0=>?_) (fun d0=>?_)
 ·have d0':v=0:=by simpa using d0
  have hD:=hN3 8 (by omega) (by omega)
  rw [show qNe ⟨proto,ver,par,key,kid⟩ k v x l=l.set k ⟨(x 8),ver,par,key,kid⟩ by unfold qNe;rw [if_pos d0'],if_pos (show v≤4 by omega)]
  generalize x 8=w at hD ⊢
  have hset:=flatAV_set (j:=0) (.int .i64 w) (by omega) (encFs_size l) (encFs_get hd)
  refine ww ?_
  refine qAe (qAr (H':=[.row (qAk L a3),.buf 5 (qAt l).length (qAu (qAt l))]) rfl rfl hD [0] (by decide) rfl rfl rfl rfl rfl rfl rfl) rfl ?_
  refine ww ?_
  refine qAe (qAd (bufAddr_ok (sz:=5) hT rfl rfl rfl rfl (by omega))) rfl ?_
  refine qAe (fieldAddrB_ok hT rfl rfl rfl rfl rfl) rfl ?_
  refine qBb (qDa hT rfl rfl rfl rfl rfl rfl rfl (by simp;omega) rfl) rfl ?_
  refine wws ?_
  refine qCb 5 1 5 (qAt (l.set k ⟨w,ver,par,key,kid⟩)) rfl rfl (by rw [encFs_length,List.length_set,hll]) (qCg (encFs_size _) (by rw [Int.toNat_natCast];refine hset.trans ?_;rw [← encFs_set];rfl)) rfl ?_
  refine ww ?_
  exact rq ⟨rfl,rfl⟩ rfl AV.le.dat
 have d0':¬ v=0:=by simpa using d0
 refine ww ?_
 refine qAa rfl (fun d1=>?_) (fun d1=>?_)
 ·have d1':v=1:=by simpa using d1
  have hxn:=hx 3 (by omega)
  have hat:=pkI_at (T:=[0,255,256]) hxn
  have hD:=hN3 3 (by omega) (by omega)
  rw [show qNe ⟨proto,ver,par,key,kid⟩ k v x l=l.set k ⟨proto,(pkI [0,255,256] (x 3)),par,key,kid⟩ by unfold qNe;rw [if_neg d0',if_pos d1'],if_pos (show v≤4 by omega)]
  generalize pkI [0,255,256] (x 3)=w at hat ⊢
  have hset:=flatAV_set (j:=1) (.int .i64 w) (by omega) (encFs_size l) (encFs_get hd)
  refine ww ?_
  refine qAe (qAr (H':=[.row (qAk L a3),.buf 5 (qAt l).length (qAu (qAt l))]) rfl rfl hD [0] (by decide) rfl rfl rfl rfl rfl rfl rfl) rfl ?_
  refine ww ?_
  refine wwi hat ?_
  refine ww ?_
  refine qAe (qAd (bufAddr_ok (sz:=5) hT rfl rfl rfl rfl (by omega))) rfl ?_
  refine qAe (fieldAddrB_ok hT rfl rfl rfl rfl rfl) rfl ?_
  refine qBb (qDa hT rfl rfl rfl rfl rfl rfl rfl (by simp;omega) rfl) rfl ?_
  refine wws ?_
  refine qCb 5 1 5 (qAt (l.set k ⟨proto,w,par,key,kid⟩)) rfl rfl (by rw [encFs_length,List.length_set,hll]) (qCg (encFs_size _) (by rw [Int.toNat_natCast];refine hset.trans ?_;rw [← encFs_set];rfl)) rfl ?_
  refine ww ?_
  exact rq ⟨rfl,rfl⟩ rfl AV.le.dat
 have d1':¬ v=1:=by simpa using d1
 refine ww ?_
 refine qAa rfl (fun d2=>?_) (fun d2=>?_)
 ·have d2':v=2:=by simpa using d2
  have hxn:=hx 3 (by omega)
  have hat:=pkI_at (T:=[-1,31,32]) hxn
  have hD:=hN3 3 (by omega) (by omega)
  rw [show qNe ⟨proto,ver,par,key,kid⟩ k v x l=l.set k ⟨proto,ver,(pkI [-1,31,32] (x 3)),key,kid⟩ by unfold qNe;rw [if_neg d0',if_neg d1',if_pos d2'],if_pos (show v≤4 by omega)]
  generalize pkI [-1,31,32] (x 3)=w at hat ⊢
  have hset:=flatAV_set (j:=2) (.int .i64 w) (by omega) (encFs_size l) (encFs_get hd)
  refine ww ?_
  refine qAe (qAr (H':=[.row (qAk L a3),.buf 5 (qAt l).length (qAu (qAt l))]) rfl rfl hD [0] (by decide) rfl rfl rfl rfl rfl rfl rfl) rfl ?_
  refine ww ?_
  refine wwi hat ?_
  refine ww ?_
  refine qAe (qAd (bufAddr_ok (sz:=5) hT rfl rfl rfl rfl (by omega))) rfl ?_
  refine qAe (fieldAddrB_ok hT rfl rfl rfl rfl rfl) rfl ?_
  refine qBb (qDa hT rfl rfl rfl rfl rfl rfl rfl (by simp;omega) rfl) rfl ?_
  refine wws ?_
  refine qCb 5 1 5 (qAt (l.set k ⟨proto,ver,w,key,kid⟩)) rfl rfl (by rw [encFs_length,List.length_set,hll]) (qCg (encFs_size _) (by rw [Int.toNat_natCast];refine hset.trans ?_;rw [← encFs_set];rfl)) rfl ?_
  refine ww ?_
  exact rq ⟨rfl,rfl⟩ rfl AV.le.dat
 have d2':¬ v=2:=by simpa using d2
 refine ww ?_
 refine qAa rfl (fun d3=>?_) (fun d3=>?_)
 ·have d3':v=3:=by simpa using d3
  have hxn:=hx 4 (by omega)
  have hat:=pkI_at (T:=[0,1,4,2147483575]) hxn
  have hD:=hN3 4 (by omega) (by omega)
  rw [show qNe ⟨proto,ver,par,key,kid⟩ k v x l=l.set k ⟨proto,ver,par,(pkI [0,1,4,2147483575] (x 4)),kid⟩ by unfold qNe;rw [if_neg d0',if_neg d1',if_neg d2',if_pos d3'],if_pos (show v≤4 by omega)]
  generalize pkI [0,1,4,2147483575] (x 4)=w at hat ⊢
  have hset:=flatAV_set (j:=3) (.int .i64 w) (by omega) (encFs_size l) (encFs_get hd)
  refine ww ?_
  refine qAe (qAr (H':=[.row (qAk L a3),.buf 5 (qAt l).length (qAu (qAt l))]) rfl rfl hD [0] (by decide) rfl rfl rfl rfl rfl rfl rfl) rfl ?_
  refine ww ?_
  refine wwi hat ?_
  refine ww ?_
  refine qAe (qAd (bufAddr_ok (sz:=5) hT rfl rfl rfl rfl (by omega))) rfl ?_
  refine qAe (fieldAddrB_ok hT rfl rfl rfl rfl rfl) rfl ?_
  refine qBb (qDa hT rfl rfl rfl rfl rfl rfl rfl (by simp;omega) rfl) rfl ?_
  refine wws ?_
  refine qCb 5 1 5 (qAt (l.set k ⟨proto,ver,par,w,kid⟩)) rfl rfl (by rw [encFs_length,List.length_set,hll]) (qCg (encFs_size _) (by rw [Int.toNat_natCast];refine hset.trans ?_;rw [← encFs_set];rfl)) rfl ?_
  refine ww ?_
  exact rq ⟨rfl,rfl⟩ rfl AV.le.dat
 have d3':¬ v=3:=by simpa using d3
 refine ww ?_
 refine qAa rfl (fun d4=>?_) (fun d4=>?_)
 ·have d4':v=4:=by simpa using d4
  have hxn:=hx 3 (by omega)
  have hat:=pkI_at (T:=[-1,255,256]) hxn
  have hD:=hN3 3 (by omega) (by omega)
  rw [show qNe ⟨proto,ver,par,key,kid⟩ k v x l=l.set k ⟨proto,ver,par,key,(pkI [-1,255,256] (x 3))⟩ by unfold qNe;rw [if_neg d0',if_neg d1',if_neg d2',if_neg d3',if_pos d4'],if_pos (show v≤4 by omega)]
  generalize pkI [-1,255,256] (x 3)=w at hat ⊢
  have hset:=flatAV_set (j:=4) (.int .i64 w) (by omega) (encFs_size l) (encFs_get hd)
  refine ww ?_
  refine qAe (qAr (H':=[.row (qAk L a3),.buf 5 (qAt l).length (qAu (qAt l))]) rfl rfl hD [0] (by decide) rfl rfl rfl rfl rfl rfl rfl) rfl ?_
  refine ww ?_
  refine wwi hat ?_
  refine ww ?_
  refine qAe (qAd (bufAddr_ok (sz:=5) hT rfl rfl rfl rfl (by omega))) rfl ?_
  refine qAe (fieldAddrB_ok hT rfl rfl rfl rfl rfl) rfl ?_
  refine qBb (qDa hT rfl rfl rfl rfl rfl rfl rfl (by simp;omega) rfl) rfl ?_
  refine wws ?_
  refine qCb 5 1 5 (qAt (l.set k ⟨proto,ver,par,key,w⟩)) rfl rfl (by rw [encFs_length,List.length_set,hll]) (qCg (encFs_size _) (by rw [Int.toNat_natCast];refine hset.trans ?_;rw [← encFs_set];rfl)) rfl ?_
  refine ww ?_
  exact rq ⟨rfl,rfl⟩ rfl AV.le.dat
 have d4':¬ v=4:=by simpa using d4
 refine ww ?_
 have hcut:=flatAV_cut (encFs_size l) (encFs_get hd)
 rw [if_neg (show ¬ v≤4 by omega)]
 refine qAa rfl (fun d5=>?_) (fun d5=>?_)
 ·have d5':v=5:=by simpa using d5
  rw [show qNe ⟨proto,ver,par,key,kid⟩ k v x l=l++[⟨proto,ver,par,key,kid⟩] by unfold qNe;rw [if_neg d0',if_neg d1',if_neg d2',if_neg d3',if_neg d4',if_pos d5']]
  refine ww ?_
  refine qAe (qAd (bufAddr_ok (sz:=5) hT rfl rfl rfl rfl (by omega))) rfl ?_
  refine qAe (qKv (cs:=[.I proto,.I ver,.I par,.I key,.I kid]) hT rfl rfl rfl rfl rfl (by decide) (by show _+5≤_;simp;omega) (by rw [Int.toNat_natCast];exact hcut)) rfl ?_
  refine ww ?_
  refine qAe (bufApp_ok hT rfl rfl rfl rfl rfl rfl (by show ((qAt l).length+1)*(40+1)≤_;omega)) rfl ?_
  refine wws ?_
  refine qCb 5 1 5 (qAt (l++[⟨proto,ver,par,key,kid⟩])) rfl rfl (by rw [encFs_length,List.length_append,hll];rfl) (qCg (encFs_size _) (by rw [encFs_append,flatAV_append];rfl)) rfl ?_
  refine ww ?_
  exact rq ⟨rfl,rfl⟩ rfl AV.le.dat
 have d5':¬ v=5:=by simpa using d5
 rw [show qNe ⟨proto,ver,par,key,kid⟩ k v x l=l++List.replicate 18 ⟨proto,ver,par,key,kid⟩ by unfold qNe;rw [if_neg d0',if_neg d1',if_neg d2',if_neg d3',if_neg d4',if_neg d5']]
 refine ww ?_
 refine qAw (ι:=Nat×List Inf) (fun x=>[(0,.ptr 0 0),(5,.bm 1 x.2.length),(6,.I (k:Int)),(7,.I (x.1:Int))]) (fun x=>[.row (qAk L a2),.buf 5 x.2.length (qAu (qAt x.2))])
  (fun x=>x.1≤9∧x.2=l++List.replicate (2*x.1) ⟨proto,ver,par,key,kid⟩) (fun x=>9-x.1) (0,l) ⟨by simp,by simp⟩ ⟨.refl _,AV.le.eq (by rw [hll];rfl),.refl _,.refl _,trivial⟩ (by rw [hll];exact HLe.refl _) ?_
 rintro ⟨i,o⟩ ⟨h1,ho⟩
 simp only at h1 ho ⊢
 have h2:o[k]?=some ⟨proto,ver,par,key,kid⟩:=by rw [ho,List.getElem?_append_left hkl];exact hd
 have h3:o.length≤50+2*i:=by rw [ho];simp;omega
 have hol:=encFs_length o
 have hof:=encFs_flat o
 have hko:=(List.getElem?_eq_some_iff.1 h2).1
 have hwr:IntKind.i64.wrap ((i:Int)+1)=((i+1:Nat):Int):=by rw [qAj (by omega)];simp
 have hcut:=flatAV_cut (encFs_size o) (encFs_get h2)
 refine ww ?_
 refine qAa rfl (fun c5=>?_) (fun c5=>?_)
 ·have c5':i < 9:=by simp at c5;omega
  refine wwn ?_
  refine qAy (fun i=>bif Nat.beq i 4 then [1] else bif Nat.beq i 8 then [1] else bif Nat.beq i 10 then [1] else []) (fun i=>bif Nat.beq i 10 then [1] else []) mixed (by kernel_rfl) ?_
  refine wwg ?_
  refine qEd (bufAddr_ok (sz:=5) hT rfl rfl rfl rfl (by omega)) rfl rfl ?_
  refine qAm (v:=.agg [.I proto,.I ver,.I par,.I key,.I kid]) (os:=[]) (fun kk hk1 hk2=>qKv (cells:=qAu (qAt o)) hT rfl rfl (hk2 1 List.mem_cons_self) rfl rfl (by decide) (by show _+5≤_;simp;omega) (by rw [Int.toNat_natCast];exact hcut)) rfl ?_
  refine wwg ?_
  refine qEd (bufAddr_ok (sz:=5) hT rfl rfl rfl rfl (by omega)) rfl rfl ?_
  refine qAm (v:=.agg [.I proto,.I ver,.I par,.I key,.I kid]) (os:=[]) (fun kk hk1 hk2=>qKv (cells:=qAu (qAt o)) hT rfl rfl (hk2 1 List.mem_cons_self) rfl rfl (by decide) (by show _+5≤_;simp;omega) (by rw [Int.toNat_natCast];exact hcut)) rfl ?_
  refine wwg ?_
  refine qAm (os:=[]) (fun k hk1 hk2=>buildSl_ok hT rfl rfl) rfl ?_
  refine wwg ?_
  refine qAm (v:=.bm 1 (o.length+2)) (os:=[.buf 5 (o.length+2) (qAu (qAt o)++qAu [[.int .i64 proto,.int .i64 ver,.int .i64 par,.int .i64 key,.int .i64 kid],[.int .i64 proto,.int .i64 ver,.int .i64 par,.int .i64 key,.int .i64 kid]])]) (fun kk hk1 hk2=>bufApp_ok (i:=1) (sz:=5) (by_:=40) (n:=o.length) (es2:=[[.int .i64 proto,.int .i64 ver,.int .i64 par,.int .i64 key,.int .i64 kid],[.int .i64 proto,.int .i64 ver,.int .i64 par,.int .i64 key,.int .i64 kid]]) hT rfl rfl rfl rfl (hk2 1 List.mem_cons_self) rfl (by show (o.length+2)*(40+1)≤_;omega)) rfl ?_
  refine wwg ?_
  refine ww ?_
  have hfl:qAu (qAt (o++[⟨proto,ver,par,key,kid⟩,⟨proto,ver,par,key,kid⟩]))=qAu (qAt o)++qAu [[.int .i64 proto,.int .i64 ver,.int .i64 par,.int .i64 key,.int .i64 kid],[.int .i64 proto,.int .i64 ver,.int .i64 par,.int .i64 key,.int .i64 kid]]:=by rw [encFs_append,flatAV_append];rfl
  refine ⟨(i+1,o++[(⟨proto,ver,par,key,kid⟩:Inf),⟨proto,ver,par,key,kid⟩]),⟨c5',by rw [ho,List.append_assoc,show 2*(i+1)=2*i+1+1 by omega,List.replicate_succ',List.replicate_succ',List.append_assoc];rfl⟩,by simp only;omega,⟨.refl _,AV.le.eq (by show AV.bm 1 (o.length+2)=_;rw [List.length_append];rfl),.refl _,.int hwr,trivial⟩,?_⟩
  rw [show (o++[(⟨proto,ver,par,key,kid⟩:Inf),⟨proto,ver,par,key,kid⟩]).length=o.length+2 by simp,hfl]
  exact HLe.refl _
 ·have c5':i=9:=by simp at c5;omega
  subst c5'
  subst ho
  refine wwe ?_
  refine qCb 5 1 5 (qAt (l++List.replicate 18 ⟨proto,ver,par,key,kid⟩)) rfl rfl hol (qIw (encFs_size _)) rfl ?_
  refine ww ?_
  exact rq ⟨rfl,rfl⟩ rfl AV.le.dat
end Tdoc
